/- The contract of conf.May. -/
import Derived.Test.YtccmjljlfgbicaaGreatConf
namespace Go.Proofs.YtccmjljlfgbicaaGreat
open Go.ChangeShapes Go.WideShapes Go.ChangeAt Go.RowKit

/-- The number of an error: an argument that may not be, if something isn't so. -/
def errIf (b : Bool) : Int := if b then 1 else 0


set_option maxRecDepth 100000 in
set_option maxHeartbeats 1000000 in
theorem may_any (c : Conf) (w : World) :
    Calls Tryz.prog 181 #[c.val] w fun e w' => e = .returned (.int .i64 (errIf (!c.may))) ∧ Below w.heap.size w w' := by
  unfold Conf.val
  have hM : c.may = (inB c.threads 1 8 && (mayB c.buckets && (inB c.inserts 0 256 && (inB c.fuel 0 65536 && inB c.calls 1 256)))) := rfl
  have HM := Lib.hid hM
  clear hM
  go_enter Tryz.func181, Tryz.ntmps181
  go_wp2
  go_region_held3 (fun w' => w'.cell? ⟨w.heap.size, 0, none⟩ = some (.int .i64 c.threads) ∧ w'.cell? ⟨w.heap.size, 1, none⟩ = some (.int .i64 c.buckets) ∧ w'.cell? ⟨w.heap.size, 2, none⟩ = some (.int .i64 c.inserts) ∧ w'.cell? ⟨w.heap.size, 3, none⟩ = some (.int .i64 c.fuel) ∧ w'.cell? ⟨w.heap.size, 4, none⟩ = some (.int .i64 c.calls)) (go_keep) ((first | (go_at_call 199; refine (within_any _ _ _ _).mono ?_; rintro e w1 ⟨rfl, rfl⟩) | (go_at_call 192; refine (mayb_any _ _).mono ?_; rintro e w1 ⟨rfl, rfl⟩)))
  all_goals
    go_wp2_with fail
    refine (all5 (inB c.threads 1 8) (mayB c.buckets) (inB c.inserts 0 256) (inB c.fuel 0 65536) (inB c.calls 1 256) _ _ (by go_simp) (by go_simp) (by go_simp) (by go_simp) (by go_simp)).mono ?_
    rintro e w1 ⟨rfl, rfl⟩
    rw [← HM.out]
    cases hc : c.may
    all_goals
      go_wp2_with fail
      go_ret
      exact ⟨ret_u (by rw [hc]; rfl), (((Below.refl _ _).alloc (Nat.le_refl _) _).alloc (by simp) _).drew⟩

/-- A fact of one step: a region's world holds the five cells of a layout at a block. -/
def ConfAt (w : World) (b : Nat) (c : Conf) : Prop :=
  w.cell? ⟨b, 0, none⟩ = some (.int .i64 c.threads) ∧ w.cell? ⟨b, 1, none⟩ = some (.int .i64 c.buckets) ∧ w.cell? ⟨b, 2, none⟩ = some (.int .i64 c.inserts) ∧ w.cell? ⟨b, 3, none⟩ = some (.int .i64 c.fuel) ∧ w.cell? ⟨b, 4, none⟩ = some (.int .i64 c.calls)

theorem may_bounds {c : Conf} (h : c.may = true) : 1 ≤ c.threads ∧ c.threads ≤ 8 ∧ 1 ≤ c.buckets ∧ c.buckets ≤ 64 ∧ 0 ≤ c.inserts ∧ c.inserts ≤ 256 ∧ 0 ≤ c.fuel ∧ c.fuel ≤ 65536 ∧ 1 ≤ c.calls ∧ c.calls ≤ 256 := by
  simp only [Conf.may, Bool.and_eq_true, inB_iff] at h
  have hb := mayB_cases h.2.1
  omega

theorem ops_in {c : Conf} (h : c.may = true) : c.ops = c.threads * c.calls := by unfold Conf.ops; rw [h]; rfl
theorem nodes_in {c : Conf} (h : c.may = true) : c.nodes = 1 + c.buckets + 2 * c.ops := by unfold Conf.nodes; rw [h]; rfl
theorem ops_out {c : Conf} (h : c.may = false) : c.ops = 0 := by unfold Conf.ops; rw [h]; rfl
theorem nodes_out {c : Conf} (h : c.may = false) : c.nodes = 0 := by unfold Conf.nodes; rw [h]; rfl
theorem mul_bounds {a b : Int} (h0 : 1 ≤ a) (h1 : a ≤ 8) (h2 : 1 ≤ b) (h3 : b ≤ 256) : 1 ≤ a * b ∧ a * b ≤ 2048 := by
  have l : 1 * 1 ≤ a * b := Int.mul_le_mul h0 h2 (by omega) (by omega)
  have u : a * b ≤ 8 * 256 := Int.mul_le_mul h1 h3 (by omega) (by omega)
  omega
theorem ops_bounds (c : Conf) : 0 ≤ c.ops ∧ c.ops ≤ 2048 := by
  cases h : c.may
  · rw [ops_out h]; omega
  · rw [ops_in h]
    obtain ⟨a1, a2, _, _, _, _, _, _, a3, a4⟩ := may_bounds h
    have := mul_bounds a1 a2 a3 a4
    omega


theorem confAt_new {w w1 : World} {c : Conf} (hb : Below (w.alloc (.cells c.cells 35)).heap.size (w.alloc (.cells c.cells 35)) w1) : ConfAt w1 w.heap.size c := by
  refine ⟨?_, ?_, ?_, ?_, ?_⟩ <;> (rw [hb.cell (by simp)]; go_simp)
theorem ConfAt.below {w w1 : World} {b : Nat} {c : Conf} {B : Nat} (h : ConfAt w b c) (hb : Below B w w1) (hB : b < B) : ConfAt w1 b c := by
  obtain ⟨h0, h1, h2, h3, h4⟩ := h
  refine ⟨?_, ?_, ?_, ?_, ?_⟩ <;> (rw [hb.cell hB]; assumption)
theorem below_new {w w1 : World} {cs : Array Value} {t : TypeId} (hb : Below (w.alloc (.cells cs t)).heap.size (w.alloc (.cells cs t)) w1) : Below w.heap.size w w1 :=
  ((Below.refl _ _).alloc (Nat.le_refl _) _).trans (hb.mono (by simp))

theorem may_no {c : Conf} (w : World) (hm : c.may = false) :
    Calls Tryz.prog 181 #[c.val] w fun e w' => e = .returned (.int .i64 1) ∧ Below w.heap.size w w' :=
  (may_any c w).mono fun _ _ ⟨he, hb⟩ => ⟨he.trans (ret_u (by rw [hm]; rfl)), hb⟩
theorem may_yes {c : Conf} (w : World) (hm : c.may = true) :
    Calls Tryz.prog 181 #[c.val] w fun e w' => e = .returned (.int .i64 0) ∧ Below w.heap.size w w' :=
  (may_any c w).mono fun _ _ ⟨he, hb⟩ => ⟨he.trans (ret_u (by rw [hm]; rfl)), hb⟩

set_option maxHeartbeats 1000000 in
theorem cops_any (c : Conf) (w : World) :
    Calls Tryz.prog 170 #[c.val] w fun e w' => e = .returned (.int .i64 c.ops) ∧ Below w.heap.size w w' := by
  cases hm : c.may
  · have HO := Lib.hid (ops_out hm)
    have HM := Lib.hid hm
    clear hm
    go_enter Tryz.func170, Tryz.ntmps170
    go_wp2_with (go_at_call 181; refine (may_no (c := c) _ HM.out).mono ?_; rintro e w1 ⟨rfl, hb⟩)
    go_ret
    exact ⟨ret_u HO.out.symm, below_new hb⟩
  · have HO := Lib.hid (ops_in hm)
    obtain ⟨a1, a2, _, _, _, _, _, _, a3, a4⟩ := may_bounds hm
    have hmb := mul_bounds a1 a2 a3 a4
    have HM := Lib.hid hm
    clear hm
    go_enter Tryz.func170, Tryz.ntmps170
    go_wp2_with (go_at_call 181; refine (may_yes (c := c) _ HM.out).mono ?_; rintro e w1 ⟨rfl, hb⟩; obtain ⟨g0, g1, g2, g3, g4⟩ := confAt_new hb)
    go_ret
    exact ⟨ret_u HO.out.symm, below_new hb⟩

set_option maxHeartbeats 1000000 in
theorem cnodes_any (c : Conf) (w : World) :
    Calls Tryz.prog 167 #[c.val] w fun e w' => e = .returned (.int .i64 c.nodes) ∧ Below w.heap.size w w' := by
  cases hm : c.may
  · have HO := Lib.hid (nodes_out hm)
    have HM := Lib.hid hm
    clear hm
    go_enter Tryz.func167, Tryz.ntmps167
    go_wp2_with (go_at_call 181; refine (may_no (c := c) _ HM.out).mono ?_; rintro e w1 ⟨rfl, hb⟩)
    go_ret
    exact ⟨ret_u HO.out.symm, below_new hb⟩
  · have HO := Lib.hid (nodes_in hm)
    obtain ⟨a1, a2, b1, b2, _, _, _, _, a3, a4⟩ := may_bounds hm
    have hmb := ops_bounds c
    have HM := Lib.hid hm
    clear hm
    go_enter Tryz.func167, Tryz.ntmps167
    go_wp2_with (go_at_call 181; refine (may_yes (c := c) _ HM.out).mono ?_; rintro e w1 ⟨rfl, hb⟩; obtain ⟨g0, g1, g2, g3, g4⟩ := confAt_new hb)
    have hz := hb.size
    simp at hz
    have e1 : IntKind.i64.wrap (1 + c.buckets) = 1 + c.buckets := IntWalk.i64_in _ (by omega)
    have e2 : IntKind.i64.wrap (2 * c.ops) = 2 * c.ops := IntWalk.i64_in _ (by omega)
    have e3 : IntKind.i64.wrap (1 + c.buckets + 2 * c.ops) = 1 + c.buckets + 2 * c.ops := IntWalk.i64_in _ (by omega)
    go_region_held3 (fun w' => w'.cell? ⟨w.heap.size, 0, none⟩ = some (.int .i64 c.threads) ∧ w'.cell? ⟨w.heap.size, 1, none⟩ = some (.int .i64 c.buckets) ∧ w'.cell? ⟨w.heap.size, 2, none⟩ = some (.int .i64 c.inserts) ∧ w'.cell? ⟨w.heap.size, 3, none⟩ = some (.int .i64 c.fuel) ∧ w'.cell? ⟨w.heap.size, 4, none⟩ = some (.int .i64 c.calls)) (first | go_keep | (go_split_ands; refine ⟨?_, ?_, ?_, ?_, ?_⟩ <;> (rw [hb2.cell (by simp; omega)]; assumption))) ((go_at_call 170; refine (cops_any c _).mono ?_; rintro e w2 ⟨rfl, hb2⟩))
    all_goals
      go_wp2
      go_ret
      exact ⟨ret_u HO.out.symm, (below_new hb).drew.trans (hb2.mono (by simp; omega))⟩

end Go.Proofs.YtccmjljlfgbicaaGreat
