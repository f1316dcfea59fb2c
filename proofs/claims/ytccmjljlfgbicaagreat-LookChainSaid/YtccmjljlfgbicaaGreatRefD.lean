/- Contracts of the document's answer: heads, operations, nodes, the length. -/
import Derived.Test.YtccmjljlfgbicaaGreatRefC
namespace Go.Proofs.YtccmjljlfgbicaaGreat
open Go.ChangeShapes Go.WideShapes Go.ChangeAt Go.RowKit

set_option maxRecDepth 100000 in
set_option maxHeartbeats 1000000 in
theorem rhead_any (c : Conf) (n : Int) (w : World) (hm : c.may = true) :
    Calls Tryz.prog 74 #[c.val, .int .i64 n] w fun e w' => e = .returned (.int .i64 (atOr n c.buckets (1 + n))) ∧ Below w.heap.size w w' := by
  have HM := Lib.hid hm
  have hmb := may_bounds hm
  clear hm
  by_cases h : 0 ≤ n ∧ n < c.buckets
  · have hi := Lib.hid (inTop_yes h)
    have ha := Lib.hid (atOr_in (v := 1 + n) h)
    have e1 : IntKind.i64.wrap (1 + n) = 1 + n := IntWalk.i64_in _ (by omega)
    clear h
    go_enter Tryz.func74, Tryz.ntmps74
    go_wp2_with (go_at_call 107; refine (rin_any c _ _ _ HM.out).mono ?_; rintro e w3 ⟨rfl, hb3⟩; rw [hi.out])
    go_ret
    exact ⟨ret_u ha.out.symm, below_new hb3⟩
  · have hi := Lib.hid (inTop_no h)
    have ha := Lib.hid (atOr_out (v := 1 + n) h)
    clear h
    go_enter Tryz.func74, Tryz.ntmps74
    go_wp2_with (go_at_call 107; refine (rin_any c _ _ _ HM.out).mono ?_; rintro e w3 ⟨rfl, hb3⟩; rw [hi.out])
    go_ret
    exact ⟨ret_u ha.out.symm, below_new hb3⟩

set_option maxRecDepth 100000 in
set_option maxHeartbeats 1000000 in
theorem rop_any (c : Conf) (t n : Int) (w : World) (hm : c.may = true) (ht : 0 ≤ t ∧ t < c.threads) (hn : 0 ≤ n ∧ n < c.calls) :
    Calls Tryz.prog 135 #[c.val, .int .i64 t, .int .i64 n] w fun e w' => e = .returned (.int .i64 (t * c.calls + n)) ∧ Below w.heap.size w w' := by
  have hmb := may_bounds hm
  have hml : 0 ≤ t * c.calls ∧ t * c.calls ≤ 2048 := by
    refine ⟨Int.mul_nonneg ht.1 (by omega), ?_⟩
    have : t * c.calls ≤ 8 * 256 := Int.mul_le_mul (by omega) (by omega) (by omega) (by omega)
    omega
  have e1 : IntKind.i64.wrap (t * c.calls) = t * c.calls := IntWalk.i64_in _ (by omega)
  have e2 : IntKind.i64.wrap (t * c.calls + n) = t * c.calls + n := IntWalk.i64_in _ (by omega)
  have HM := Lib.hid hm
  have hi := Lib.hid (inTop_yes ht)
  have hj := Lib.hid (inTop_yes hn)
  clear hm ht hn hml
  go_enter Tryz.func135, Tryz.ntmps135
  go_wp2_with (go_at_call 107; refine (rin_any c _ _ _ HM.out).mono ?_; rintro e w3 ⟨rfl, hb3⟩; first | (rw [hi.out]; have hbA := hb3; obtain ⟨g0, g1, g2, g3, g4⟩ := confAt_new hb3) | (rw [hj.out]; obtain ⟨k0, k1, k2, k3, k4⟩ := confAt_new (hbA.trans (hb3.mono hbA.size))))
  go_ret
  exact ⟨ret_u (by first | rfl | omega), below_new (hbA.trans (hb3.mono hbA.size))⟩

set_option maxRecDepth 100000 in
set_option maxHeartbeats 1000000 in
theorem rnode_any (c : Conf) (t n : Int) (w : World) (hm : c.may = true) (ht : 0 ≤ t ∧ t < c.threads) (hn : 0 ≤ n ∧ n < 2 * c.calls) :
    Calls Tryz.prog 138 #[c.val, .int .i64 t, .int .i64 n] w fun e w' => e = .returned (.int .i64 (1 + c.buckets + t * (2 * c.calls) + n)) ∧ Below w.heap.size w w' := by
  have hmb := may_bounds hm
  have hml : 0 ≤ t * c.calls ∧ t * c.calls ≤ 2048 := by
    refine ⟨Int.mul_nonneg ht.1 (by omega), ?_⟩
    have : t * c.calls ≤ 8 * 256 := Int.mul_le_mul (by omega) (by omega) (by omega) (by omega)
    omega
  have hm2 : 2 * t * c.calls = t * (2 * c.calls) := by rw [Int.mul_comm 2 t, Int.mul_assoc]
  have hm3 : t * (2 * c.calls) = 2 * (t * c.calls) := by rw [← hm2, Int.mul_assoc]
  have e0 : IntKind.i64.wrap (2 * c.calls) = 2 * c.calls := IntWalk.i64_in _ (by omega)
  have e1 : IntKind.i64.wrap (1 + c.buckets) = 1 + c.buckets := IntWalk.i64_in _ (by omega)
  have e2 : IntKind.i64.wrap (2 * t) = 2 * t := IntWalk.i64_in _ (by omega)
  have e3 : IntKind.i64.wrap (2 * t * c.calls) = t * (2 * c.calls) := by rw [hm2]; exact IntWalk.i64_in _ (by omega)
  have e4 : IntKind.i64.wrap (1 + c.buckets + t * (2 * c.calls)) = 1 + c.buckets + t * (2 * c.calls) := IntWalk.i64_in _ (by omega)
  have e5 : IntKind.i64.wrap (1 + c.buckets + t * (2 * c.calls) + n) = 1 + c.buckets + t * (2 * c.calls) + n := IntWalk.i64_in _ (by omega)
  have HM := Lib.hid hm
  have hi := Lib.hid (inTop_yes ht)
  have hj := Lib.hid (inTop_yes hn)
  clear hm ht hn hml hm2 hm3
  go_enter Tryz.func138, Tryz.ntmps138
  go_wp2_with (go_at_call 107; refine (rin_any c _ _ _ HM.out).mono ?_; rintro e w3 ⟨rfl, hb3⟩; first | (rw [hi.out]; have hbA := hb3; obtain ⟨g0, g1, g2, g3, g4⟩ := confAt_new hb3) | (rw [hj.out]; obtain ⟨k0, k1, k2, k3, k4⟩ := confAt_new (hbA.trans (hb3.mono hbA.size))))
  go_ret
  exact ⟨ret_u (by first | rfl | omega), below_new (hbA.trans (hb3.mono hbA.size))⟩

set_option maxRecDepth 100000 in
set_option maxHeartbeats 1000000 in
theorem rlen_any (c : Conf) (w : World) (hm : c.may = true) :
    Calls Tryz.prog 132 #[c.val] w fun e w' => e = .returned (.int .i64 (c.nodes + c.ops + c.threads)) ∧ Below w.heap.size w w' := by
  have hmb := may_bounds hm
  have hob := ops_bounds c
  have hnb := nodes_bounds hm
  have e1 : IntKind.i64.wrap (c.nodes + c.ops) = c.nodes + c.ops := IntWalk.i64_in _ (by omega)
  have e2 : IntKind.i64.wrap (c.nodes + c.ops + c.threads) = c.nodes + c.ops + c.threads := IntWalk.i64_in _ (by omega)
  have HM := Lib.hid hm
  clear hm
  go_enter Tryz.func132, Tryz.ntmps132
  go_wp2_with (go_at_call 173; refine (rmay_yes c _ HM.out).mono ?_; rintro e w1 ⟨rfl, hb1⟩; obtain ⟨g0, g1, g2, g3, g4⟩ := confAt_new hb1)
  have hz1 := hb1.size
  simp at hz1
  go_region_held3 (fun w' => w'.cell? ⟨w.heap.size, 0, none⟩ = some (.int .i64 c.threads) ∧ w'.cell? ⟨w.heap.size, 1, none⟩ = some (.int .i64 c.buckets) ∧ w'.cell? ⟨w.heap.size, 2, none⟩ = some (.int .i64 c.inserts) ∧ w'.cell? ⟨w.heap.size, 3, none⟩ = some (.int .i64 c.fuel) ∧ w'.cell? ⟨w.heap.size, 4, none⟩ = some (.int .i64 c.calls))
    (first | go_keep | (go_split_ands; refine ⟨?_, ?_, ?_, ?_, ?_⟩ <;> first | (rw [hb3.cell (by first | (simp; omega) | (have h2 := hb2.size; simp at h2 ⊢; omega))]; first | assumption | go_simp) | (rw [hb2.cell (by first | (simp; omega) | (have h3 := hb3.size; simp at h3 ⊢; omega))]; first | assumption | go_simp)))
    ((first | (go_at_call 104; refine (rnodes_any c _ HM.out).mono ?_; rintro e w2 ⟨rfl, hb2⟩) | (go_at_call 108; refine (rops_any c _ HM.out).mono ?_; rintro e w3 ⟨rfl, hb3⟩)))
  have B3 : Below w.heap.size w w3 := ((below_new hb1).drew.trans (hb2.mono (by simp; omega))).trans (hb3.mono (by have := hb2.size; simp at this; omega))
  go_wp2
  go_ret
  exact ⟨rfl, B3⟩

end Go.Proofs.YtccmjljlfgbicaaGreat
