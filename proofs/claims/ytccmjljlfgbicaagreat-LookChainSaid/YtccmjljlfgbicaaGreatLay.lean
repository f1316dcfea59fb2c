/- Contracts of layout: where everything is, in a layout that may be. -/
import Derived.Test.YtccmjljlfgbicaaGreatMay
namespace Go.Proofs.YtccmjljlfgbicaaGreat
open Go.ChangeShapes Go.WideShapes Go.ChangeAt Go.RowKit

/-- What is told of a number from 0 to below another one, or none. -/
def atOr (n top v : Int) : Int := if 0 ≤ n ∧ n < top then v else -1
theorem atOr_in {n top v : Int} (h : 0 ≤ n ∧ n < top) : atOr n top v = v := by unfold atOr; rw [if_pos h]
theorem atOr_out {n top v : Int} (h : ¬ (0 ≤ n ∧ n < top)) : atOr n top v = -1 := by unfold atOr; rw [if_neg h]

set_option maxHeartbeats 1000000 in
theorem threads_any (c : Conf) (w : World) (hm : c.may = true) :
    Calls Tryz.prog 142 #[c.val] w fun e w' => e = .returned (.int .i64 c.threads) ∧ Below w.heap.size w w' := by
  have HM := Lib.hid hm
  clear hm
  go_enter Tryz.func142, Tryz.ntmps142
  go_wp2_with (go_at_call 181; refine (may_yes (c := c) _ HM.out).mono ?_; rintro e w1 ⟨rfl, hb⟩; obtain ⟨g0, g1, g2, g3, g4⟩ := confAt_new hb)
  go_ret
  exact ⟨rfl, below_new hb⟩

set_option maxHeartbeats 1000000 in
theorem next_any (c : Conf) (n : Int) (w : World) :
    Calls Tryz.prog 103 #[c.val, .int .i64 n] w fun e w' => e = .returned (.int .i64 (atOr n c.nodes n)) ∧ Below w.heap.size w w' := by
  by_cases h0 : 0 ≤ n
  · by_cases h1 : n < c.nodes
    · go_enter Tryz.func103, Tryz.ntmps103
      go_wp2_with (first | (go_at_call 167; refine (cnodes_any c _).mono ?_; rintro e w1 ⟨rfl, hb⟩) | (go_at_call 143; go_in) | (go_at_call 172; go_in))
      go_ret
      exact ⟨ret_u (atOr_in ⟨h0, h1⟩).symm, below_new hb⟩
    · go_enter Tryz.func103, Tryz.ntmps103
      go_wp2_with (first | (go_at_call 167; refine (cnodes_any c _).mono ?_; rintro e w1 ⟨rfl, hb⟩) | (go_at_call 143; go_in) | (go_at_call 172; go_in))
      go_ret
      exact ⟨ret_u (atOr_out (by omega)).symm, below_new hb⟩
  · go_enter Tryz.func103, Tryz.ntmps103
    go_wp2_with (first | (go_at_call 167; refine (cnodes_any c _).mono ?_; rintro e w1 ⟨rfl, hb⟩) | (go_at_call 143; go_in) | (go_at_call 172; go_in))
    go_ret
    exact ⟨ret_u (atOr_out (by omega)).symm, below_new hb⟩

theorem nodes_bounds {c : Conf} (h : c.may = true) : 4 ≤ c.nodes ∧ c.nodes ≤ 4161 := by
  rw [nodes_in h, ops_in h]
  obtain ⟨a1, a2, b1, b2, _, _, _, _, a3, a4⟩ := may_bounds h
  have := mul_bounds a1 a2 a3 a4
  omega

set_option maxHeartbeats 1000000 in
theorem word_any (c : Conf) (n : Int) (w : World) (hm : c.may = true) :
    Calls Tryz.prog 101 #[c.val, .int .i64 n] w fun e w' => e = .returned (.int .i64 (atOr n c.ops (c.nodes + n))) ∧ Below w.heap.size w w' := by
  have hob := ops_bounds c
  have hnb := nodes_bounds hm
  clear hm
  by_cases h0 : 0 ≤ n
  · by_cases h1 : n < c.ops
    · go_enter Tryz.func101, Tryz.ntmps101
      go_wp2_with (first | (go_at_call 170; refine (cops_any c _).mono ?_; rintro e w1 ⟨rfl, hb⟩; obtain ⟨g0, g1, g2, g3, g4⟩ := confAt_new hb) | (go_at_call 143; go_in) | (go_at_call 171; go_in) | (go_at_call 167; refine (cnodes_any c _).mono ?_; rintro e w2 ⟨rfl, hb2⟩))
      go_ret
      exact ⟨ret_u (atOr_in ⟨h0, h1⟩).symm, (below_new hb).trans (hb2.mono (by have := hb.size; simp at this; omega))⟩
    · go_enter Tryz.func101, Tryz.ntmps101
      go_wp2_with (first | (go_at_call 170; refine (cops_any c _).mono ?_; rintro e w1 ⟨rfl, hb⟩; obtain ⟨g0, g1, g2, g3, g4⟩ := confAt_new hb) | (go_at_call 143; go_in) | (go_at_call 171; go_in) | (go_at_call 167; refine (cnodes_any c _).mono ?_; rintro e w2 ⟨rfl, hb2⟩))
      go_ret
      exact ⟨ret_u (atOr_out (by omega)).symm, below_new hb⟩
  · go_enter Tryz.func101, Tryz.ntmps101
    go_wp2_with (first | (go_at_call 170; refine (cops_any c _).mono ?_; rintro e w1 ⟨rfl, hb⟩; obtain ⟨g0, g1, g2, g3, g4⟩ := confAt_new hb) | (go_at_call 143; go_in) | (go_at_call 171; go_in) | (go_at_call 167; refine (cnodes_any c _).mono ?_; rintro e w2 ⟨rfl, hb2⟩))
    go_ret
    exact ⟨ret_u (atOr_out (by omega)).symm, below_new hb⟩

set_option maxHeartbeats 1000000 in
theorem head_any (c : Conf) (n : Int) (w : World) (hm : c.may = true) :
    Calls Tryz.prog 71 #[c.val, .int .i64 n] w fun e w' => e = .returned (.int .i64 (atOr n c.buckets (1 + n))) ∧ Below w.heap.size w w' := by
  obtain ⟨a1, _, _, b2, _, _, _, _, _, _⟩ := may_bounds hm
  have ht : (c.threads == 0) = false := by rw [beq_eq_false_iff_ne]; omega
  have HM := Lib.hid hm
  clear hm
  by_cases h0 : 0 ≤ n
  · by_cases h1 : n < c.buckets
    · go_enter Tryz.func71, Tryz.ntmps71
      go_wp2_with (first | (go_at_call 142; refine (threads_any c _ HM.out).mono ?_; rintro e w1 ⟨rfl, hb⟩; obtain ⟨g0, g1, g2, g3, g4⟩ := confAt_new hb) | (go_at_call 143; go_in) | (go_at_call 144; go_in))
      go_ret
      exact ⟨ret_u (atOr_in ⟨h0, h1⟩).symm, below_new hb⟩
    · go_enter Tryz.func71, Tryz.ntmps71
      go_wp2_with (first | (go_at_call 142; refine (threads_any c _ HM.out).mono ?_; rintro e w1 ⟨rfl, hb⟩; obtain ⟨g0, g1, g2, g3, g4⟩ := confAt_new hb) | (go_at_call 143; go_in) | (go_at_call 144; go_in))
      go_ret
      exact ⟨ret_u (atOr_out (by omega)).symm, below_new hb⟩
  · go_enter Tryz.func71, Tryz.ntmps71
    go_wp2_with (first | (go_at_call 142; refine (threads_any c _ HM.out).mono ?_; rintro e w1 ⟨rfl, hb⟩; obtain ⟨g0, g1, g2, g3, g4⟩ := confAt_new hb) | (go_at_call 143; go_in) | (go_at_call 144; go_in))
    go_ret
    exact ⟨ret_u (atOr_out (by omega)).symm, below_new hb⟩

/-- A thread's n-th thing, of so many each. -/
def ofOr (c : Conf) (t n each from_ : Int) : Int := if 0 ≤ n ∧ n < each then atOr t c.threads (from_ + t * each + n) else -1

theorem below4 {w w1 : World} {o1 o2 o3 o4 : Obj} (hb : Below ((((w.alloc o1).alloc o2).alloc o3).alloc o4).heap.size ((((w.alloc o1).alloc o2).alloc o3).alloc o4) w1) : Below w.heap.size w w1 :=
  (((((Below.refl _ _).alloc (Nat.le_refl _) _).alloc (by simp) _).alloc (by simp; omega) _).alloc (by simp; omega) _).trans (hb.mono (by simp; omega))

theorem cells4 {w w1 : World} {o1 : Obj} {x y z : Value} {t2 t3 t4 : TypeId} (hb : Below ((((w.alloc o1).alloc (.cells #[x] t2)).alloc (.cells #[y] t3)).alloc (.cells #[z] t4)).heap.size ((((w.alloc o1).alloc (.cells #[x] t2)).alloc (.cells #[y] t3)).alloc (.cells #[z] t4)) w1) :
    w1.cell? ⟨w.heap.size + 1, 0, none⟩ = some x ∧ w1.cell? ⟨w.heap.size + 1 + 1, 0, none⟩ = some y ∧ w1.cell? ⟨w.heap.size + 1 + 1 + 1, 0, none⟩ = some z := by
  refine ⟨?_, ?_, ?_⟩
  · rw [hb.cell (by simp)]; go_simp
  · rw [hb.cell (by simp)]; go_simp
  · rw [hb.cell (by simp)]; go_simp

set_option maxHeartbeats 2000000 in
theorem of_any (c : Conf) (t n each from_ : Int) (w : World) (hm : c.may = true) (hf0 : 0 ≤ from_) (hf1 : from_ ≤ 1000) (he : each ≤ 1000) :
    Calls Tryz.prog 182 #[c.val, .int .i64 t, .int .i64 n, .int .i64 each, .int .i64 from_] w fun e w' => e = .returned (.int .i64 (ofOr c t n each from_)) ∧ Below w.heap.size w w' := by
  obtain ⟨a1, a2, _, _, _, _, _, _, _, _⟩ := may_bounds hm
  have HM := Lib.hid hm
  clear hm
  by_cases k0 : 0 ≤ n
  · by_cases k1 : n < each
    · have hof : ofOr c t n each from_ = atOr t c.threads (from_ + t * each + n) := by unfold ofOr; rw [if_pos ⟨k0, k1⟩]
      have HO := Lib.hid hof
      clear hof
      by_cases h0 : 0 ≤ t
      · by_cases h1 : t < c.threads
        · have hp : 0 ≤ t * each ∧ t * each ≤ 8000 := by
            have l : 0 * 0 ≤ t * each := Int.mul_le_mul h0 (by omega) (by omega) (by omega)
            have u : t * each ≤ 8 * 1000 := Int.mul_le_mul (by omega) (by omega) (by omega) (by omega)
            omega
          go_enter Tryz.func182, Tryz.ntmps182
          go_wp2_with (first | (go_at_call 142; refine (threads_any c _ HM.out).mono ?_; rintro e w1 ⟨rfl, hb⟩; obtain ⟨c1, c2, c3⟩ := cells4 hb; have hbb := below4 hb; clear hb) | (go_at_call 143; go_in) | (go_at_call 201; go_in))
          go_ret
          exact ⟨ret_u (HO.out.trans (atOr_in ⟨h0, h1⟩) |>.symm), hbb⟩
        · go_enter Tryz.func182, Tryz.ntmps182
          go_wp2_with (first | (go_at_call 142; refine (threads_any c _ HM.out).mono ?_; rintro e w1 ⟨rfl, hb⟩; obtain ⟨c1, c2, c3⟩ := cells4 hb; have hbb := below4 hb; clear hb) | (go_at_call 143; go_in) | (go_at_call 201; go_in))
          go_ret
          exact ⟨ret_u (HO.out.trans (atOr_out (by omega)) |>.symm), hbb⟩
      · go_enter Tryz.func182, Tryz.ntmps182
        go_wp2_with (first | (go_at_call 142; refine (threads_any c _ HM.out).mono ?_; rintro e w1 ⟨rfl, hb⟩; obtain ⟨c1, c2, c3⟩ := cells4 hb; have hbb := below4 hb; clear hb) | (go_at_call 143; go_in) | (go_at_call 201; go_in))
        go_ret
        exact ⟨ret_u (HO.out.trans (atOr_out (by omega)) |>.symm), hbb⟩
    · have HO := Lib.hid (show ofOr c t n each from_ = -1 by unfold ofOr; rw [if_neg (by omega)])
      go_enter Tryz.func182, Tryz.ntmps182
      go_wp2
      go_ret
      exact ⟨ret_u HO.out.symm, ((((Below.refl _ _).alloc (Nat.le_refl _) _).alloc (by simp) _).alloc (by simp; omega) _).alloc (by simp; omega) _⟩
  · have HO := Lib.hid (show ofOr c t n each from_ = -1 by unfold ofOr; rw [if_neg (by omega)])
    go_enter Tryz.func182, Tryz.ntmps182
    go_wp2
    go_ret
    exact ⟨ret_u HO.out.symm, ((((Below.refl _ _).alloc (Nat.le_refl _) _).alloc (by simp) _).alloc (by simp; omega) _).alloc (by simp; omega) _⟩

set_option maxHeartbeats 1000000 in
theorem node_any (c : Conf) (t n : Int) (w : World) (hm : c.may = true) :
    Calls Tryz.prog 128 #[c.val, .int .i64 t, .int .i64 n] w fun e w' => e = .returned (.int .i64 (ofOr c t n (2 * c.calls) (1 + c.buckets))) ∧ Below w.heap.size w w' := by
  obtain ⟨a1, a2, _, _, _, _, _, _, _, _⟩ := may_bounds hm
  have HM := Lib.hid hm
  clear hm
  go_enter Tryz.func128, Tryz.ntmps128
  go_wp2_with (go_at_call 182; refine (of_any c _ _ _ _ _ HM.out (by omega) (by omega) (by omega)).mono ?_; rintro e w1 ⟨rfl, hb⟩)
  go_ret
  exact ⟨rfl, below_new hb⟩

set_option maxHeartbeats 1000000 in
theorem op_any (c : Conf) (t n : Int) (w : World) (hm : c.may = true) :
    Calls Tryz.prog 127 #[c.val, .int .i64 t, .int .i64 n] w fun e w' => e = .returned (.int .i64 (ofOr c t n c.calls 0)) ∧ Below w.heap.size w w' := by
  obtain ⟨a1, a2, _, _, _, _, _, _, _, _⟩ := may_bounds hm
  have HM := Lib.hid hm
  clear hm
  go_enter Tryz.func127, Tryz.ntmps127
  go_wp2_with (go_at_call 182; refine (of_any c _ _ _ _ _ HM.out (by omega) (by omega) (by omega)).mono ?_; rintro e w1 ⟨rfl, hb⟩)
  go_ret
  exact ⟨rfl, below_new hb⟩

theorem keepS {w0 W w2 : World} {B : Nat} {c : Conf} (h : (W.cell? ⟨B, 0, none⟩ = some (.int .i64 c.threads) ∧ W.cell? ⟨B, 1, none⟩ = some (.int .i64 c.buckets) ∧ W.cell? ⟨B, 2, none⟩ = some (.int .i64 c.inserts) ∧ W.cell? ⟨B, 3, none⟩ = some (.int .i64 c.fuel) ∧ W.cell? ⟨B, 4, none⟩ = some (.int .i64 c.calls)) ∧ Below (B + 1) w0 W) (hb : Below W.heap.size W w2) (hB : B + 1 ≤ w0.heap.size) :
    (w2.cell? ⟨B, 0, none⟩ = some (.int .i64 c.threads) ∧ w2.cell? ⟨B, 1, none⟩ = some (.int .i64 c.buckets) ∧ w2.cell? ⟨B, 2, none⟩ = some (.int .i64 c.inserts) ∧ w2.cell? ⟨B, 3, none⟩ = some (.int .i64 c.fuel) ∧ w2.cell? ⟨B, 4, none⟩ = some (.int .i64 c.calls)) ∧ Below (B + 1) w0 w2 := by
  have hz := h.2.size
  exact ⟨ConfAt.below (c := c) h.1 hb (by omega), h.2.trans (hb.mono (by omega))⟩

set_option maxHeartbeats 1000000 in
theorem len_conf (c : Conf) (w : World) (hm : c.may = true) :
    Calls Tryz.prog 125 #[c.val] w fun e w' => e = .returned (.int .i64 (c.nodes + c.ops + c.threads)) ∧ Below w.heap.size w w' := by
  obtain ⟨a1, a2, _, _, _, _, _, _, _, _⟩ := may_bounds hm
  have hob := ops_bounds c
  have hnb := nodes_bounds hm
  have e1 : IntKind.i64.wrap (c.nodes + c.ops) = c.nodes + c.ops := IntWalk.i64_in _ (by omega)
  have e2 : IntKind.i64.wrap (c.nodes + c.ops + c.threads) = c.nodes + c.ops + c.threads := IntWalk.i64_in _ (by omega)
  have HM := Lib.hid hm
  clear hm
  go_enter Tryz.func125, Tryz.ntmps125
  go_wp2_with fail
  go_region_held3 (fun w' => (w'.cell? ⟨w.heap.size, 0, none⟩ = some (.int .i64 c.threads) ∧ w'.cell? ⟨w.heap.size, 1, none⟩ = some (.int .i64 c.buckets) ∧ w'.cell? ⟨w.heap.size, 2, none⟩ = some (.int .i64 c.inserts) ∧ w'.cell? ⟨w.heap.size, 3, none⟩ = some (.int .i64 c.fuel) ∧ w'.cell? ⟨w.heap.size, 4, none⟩ = some (.int .i64 c.calls)) ∧ Below (w.heap.size + 1) (w.alloc (.cells c.cells 35)) w') (first | exact ⟨by refine ⟨?_, ?_, ?_, ?_, ?_⟩ <;> go_simp, (Below.refl _ _).drew⟩ | exact keepS (by assumption) hb2 (by simp)) ((first | (go_at_call 167; refine (cnodes_any c _).mono ?_; rintro e w2 ⟨rfl, hb2⟩) | (go_at_call 170; refine (cops_any c _).mono ?_; rintro e w2 ⟨rfl, hb2⟩) | (go_at_call 142; refine (threads_any c _ HM.out).mono ?_; rintro e w2 ⟨rfl, hb2⟩)))
  all_goals
    go_wp2
    go_ret
    have hx := And.right ‹_ ∧ Below (w.heap.size + 1) _ _›
    exact ⟨rfl, ((Below.refl _ _).alloc (Nat.le_refl _) _).trans (hx.mono (by omega))⟩

end Go.Proofs.YtccmjljlfgbicaaGreat
