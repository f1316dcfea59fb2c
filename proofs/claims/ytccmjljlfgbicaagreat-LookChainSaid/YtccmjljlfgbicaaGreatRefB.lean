/- Contracts of the document's answer: layouts, places. -/
import Derived.Test.YtccmjljlfgbicaaGreatLay
import Derived.Test.YtccmjljlfgbicaaGreatRef1
namespace Go.Proofs.YtccmjljlfgbicaaGreat
open Go.ChangeShapes Go.WideShapes Go.ChangeAt Go.RowKit

theorem rindex_any (a : Int) (w : World) (_h0 : 0 ≤ a) (_h1 : a ≤ 18446744073709551615) :
    Calls Tryz.prog 75 #[.int .u64 a] w fun e w' => e = .returned (.int .i64 (a / 2)) ∧ w = w' := by
  go_enter Tryz.func75, Tryz.ntmps75
  go_wp2
  go_ret
  exact ⟨rfl, rfl⟩
theorem rmark_any (a : Int) (w : World) (h0 : 0 ≤ a) (h1 : a ≤ 18446744073709551615) :
    Calls Tryz.prog 93 #[.int .u64 a] w fun e w' => e = .returned (.int .u64 (markOf a)) ∧ w = w' := by
  by_cases hm : a % 2 = 0
  · have e1 : IntKind.u64.wrap (a + 1) = a + 1 := IntWalk.u64_in _ (by omega)
    have hk := Lib.hid (show markOf a = a + 1 by unfold markOf; omega)
    have hm' : (a % 2 == 0) = true := by simpa using hm
    go_enter Tryz.func93, Tryz.ntmps93
    go_wp2
    go_ret
    exact ⟨ret_u hk.out.symm, rfl⟩
  · have hk := Lib.hid (show markOf a = a by unfold markOf; omega)
    have hm' : (a % 2 == 0) = false := by simpa using hm
    go_enter Tryz.func93, Tryz.ntmps93
    go_wp2
    go_ret
    exact ⟨ret_u hk.out.symm, rfl⟩
theorem rover_any (a : Int) (w : World) :
    Calls Tryz.prog 180 #[.int .u64 a] w fun e w' => e = .returned (.bool (decide (1 < a))) ∧ w = w' := by
  go_enter Tryz.func180, Tryz.ntmps180
  go_wp2
  go_ret
  refine ⟨ret_b ?_, rfl⟩
  by_cases h : 1 < a
  · simp [h]; omega
  · simp [h]; omega

set_option maxHeartbeats 1000000 in
theorem rmayb_yes (b : Int) (w : World) (h : mayB b = true) :
    Calls Tryz.prog 179 #[.int .i64 b] w fun e w' => e = .returned (.bool true) ∧ w = w' := by
  rcases mayB_cases h with rfl | rfl | rfl | rfl | rfl | rfl | rfl
  all_goals
    go_enter Tryz.func179, Tryz.ntmps179
    go_wp2
    go_ret
    exact ⟨rfl, rfl⟩

theorem may_b {c : Conf} (h : c.may = true) : mayB c.buckets = true := by
  simp only [Conf.may, Bool.and_eq_true] at h
  exact h.2.1

set_option maxHeartbeats 1000000 in
theorem rmay_yes (c : Conf) (w : World) (hm : c.may = true) :
    Calls Tryz.prog 173 #[c.val] w fun e w' => e = .returned (.int .i64 0) ∧ Below w.heap.size w w' := by
  obtain ⟨a1, a2, b1, b2, i1, i2, f1, f2, c1, c2⟩ := may_bounds hm
  have hb := Lib.hid (may_b hm)
  clear hm
  go_enter Tryz.func173, Tryz.ntmps173
  go_wp2_with (go_at_call 179; refine (rmayb_yes _ _ hb.out).mono ?_; rintro e w1 ⟨rfl, rfl⟩)
  go_ret
  exact ⟨rfl, (Below.refl _ _).alloc (Nat.le_refl _) _⟩

set_option maxHeartbeats 1000000 in
theorem rops_any (c : Conf) (w : World) (hm : c.may = true) :
    Calls Tryz.prog 108 #[c.val] w fun e w' => e = .returned (.int .i64 c.ops) ∧ Below w.heap.size w w' := by
  have HO := Lib.hid (ops_in hm)
  have hob := ops_bounds c
  have e1 : IntKind.i64.wrap (c.threads * c.calls) = c.ops := by rw [ops_in hm] at hob ⊢; exact IntWalk.i64_in _ (by omega)
  have HM := Lib.hid hm
  clear hm
  go_enter Tryz.func108, Tryz.ntmps108
  go_wp2_with (go_at_call 173; refine (rmay_yes c _ HM.out).mono ?_; rintro e w1 ⟨rfl, hb⟩; obtain ⟨g0, g1, g2, g3, g4⟩ := confAt_new hb)
  go_ret
  exact ⟨ret_u (by rw [← e1]; try rfl), below_new hb⟩

set_option maxHeartbeats 1000000 in
theorem rnodes_any (c : Conf) (w : World) (hm : c.may = true) :
    Calls Tryz.prog 104 #[c.val] w fun e w' => e = .returned (.int .i64 c.nodes) ∧ Below w.heap.size w w' := by
  have hob := ops_bounds c
  have hnb := nodes_bounds hm
  obtain ⟨a1, a2, b1, b2, _, _, _, _, a3, a4⟩ := may_bounds hm
  have hmu : 2 * c.threads * c.calls = 2 * c.ops := by rw [ops_in hm, Int.mul_assoc]
  have e0 : IntKind.i64.wrap (1 + c.buckets) = 1 + c.buckets := IntWalk.i64_in _ (by omega)
  have e1 : IntKind.i64.wrap (2 * c.threads) = 2 * c.threads := IntWalk.i64_in _ (by omega)
  have e2 : IntKind.i64.wrap (2 * c.threads * c.calls) = 2 * c.ops := by rw [hmu]; exact IntWalk.i64_in _ (by omega)
  have e3 : IntKind.i64.wrap (1 + c.buckets + 2 * c.ops) = c.nodes := by rw [nodes_in hm] at hnb ⊢; exact IntWalk.i64_in _ (by omega)
  have HM := Lib.hid hm
  clear hm hmu
  go_enter Tryz.func104, Tryz.ntmps104
  go_wp2_with (go_at_call 173; refine (rmay_yes c _ HM.out).mono ?_; rintro e w1 ⟨rfl, hb⟩; obtain ⟨g0, g1, g2, g3, g4⟩ := confAt_new hb)
  go_ret
  exact ⟨ret_u (by rw [← e3]; try rfl), below_new hb⟩

/-- Is a number one of so many? -/
def inTop (n top : Int) : Bool := decide (0 ≤ n ∧ n < top)

set_option maxHeartbeats 1000000 in
theorem rin_any (c : Conf) (n top : Int) (w : World) (hm : c.may = true) :
    Calls Tryz.prog 107 #[c.val, .int .i64 n, .int .i64 top] w fun e w' => e = .returned (.bool (inTop n top)) ∧ Below w.heap.size w w' := by
  have HM := Lib.hid hm
  clear hm
  by_cases h0 : 0 ≤ n
  · by_cases h1 : n < top
    · have hi := Lib.hid (show inTop n top = true by unfold inTop; simp [h0, h1])
      go_enter Tryz.func107, Tryz.ntmps107
      go_wp2_with (go_at_call 173; refine (rmay_yes c _ HM.out).mono ?_; rintro e w1 ⟨rfl, hb⟩)
      go_ret
      exact ⟨ret_b (by rw [hi.out]; try (simp; omega)), below_new hb⟩
    · have hi := Lib.hid (show inTop n top = false by unfold inTop; simp; omega)
      go_enter Tryz.func107, Tryz.ntmps107
      go_wp2_with (go_at_call 173; refine (rmay_yes c _ HM.out).mono ?_; rintro e w1 ⟨rfl, hb⟩)
      go_ret
      exact ⟨ret_b (by rw [hi.out]; try (simp; omega)), below_new hb⟩
  · have hi := Lib.hid (show inTop n top = false by unfold inTop; simp; omega)
    go_enter Tryz.func107, Tryz.ntmps107
    go_wp2_with (go_at_call 173; refine (rmay_yes c _ HM.out).mono ?_; rintro e w1 ⟨rfl, hb⟩)
    go_ret
    exact ⟨ret_b (by rw [hi.out]; try (simp; omega)), below_new hb⟩

end Go.Proofs.YtccmjljlfgbicaaGreat
