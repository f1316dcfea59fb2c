/- Contracts of the document's answer: where things lie. -/
import Derived.Test.YtccmjljlfgbicaaGreatRefB
namespace Go.Proofs.YtccmjljlfgbicaaGreat
open Go.ChangeShapes Go.WideShapes Go.ChangeAt Go.RowKit

theorem inTop_yes {n top : Int} (h : 0 ≤ n ∧ n < top) : inTop n top = true := by unfold inTop; simp [h]
theorem inTop_no {n top : Int} (h : ¬ (0 ≤ n ∧ n < top)) : inTop n top = false := by unfold inTop; simpa using h

set_option maxHeartbeats 1000000 in
theorem rnext_any (c : Conf) (n : Int) (w : World) (hm : c.may = true) :
    Calls Tryz.prog 105 #[c.val, .int .i64 n] w fun e w' => e = .returned (.int .i64 (atOr n c.nodes n)) ∧ Below w.heap.size w w' := by
  have HM := Lib.hid hm
  have hob := ops_bounds c
  have hnb := nodes_bounds hm
  clear hm
  by_cases h : 0 ≤ n ∧ n < c.nodes
  · have hi := Lib.hid (inTop_yes h)
    have ha := Lib.hid (atOr_in (v := n) h)
    have e1 : IntKind.i64.wrap (c.nodes + n) = c.nodes + n := IntWalk.i64_in _ (by omega)
    clear h
    go_enter Tryz.func105, Tryz.ntmps105
    go_wp2_with fail
    go_region_held3 (fun w' => w'.cell? ⟨w.heap.size, 0, none⟩ = some (.int .i64 c.threads) ∧ w'.cell? ⟨w.heap.size, 1, none⟩ = some (.int .i64 c.buckets) ∧ w'.cell? ⟨w.heap.size, 2, none⟩ = some (.int .i64 c.inserts) ∧ w'.cell? ⟨w.heap.size, 3, none⟩ = some (.int .i64 c.fuel) ∧ w'.cell? ⟨w.heap.size, 4, none⟩ = some (.int .i64 c.calls))
      (first | go_keep | (go_split_ands; refine ⟨?_, ?_, ?_, ?_, ?_⟩ <;> first | (rw [hb3.cell (by have := hb2.size; simp at this; simp; omega)]; first | assumption | go_simp) | (rw [hb2.cell (by simp)]; go_simp)))
      ((first | (go_at_call 104; refine (rnodes_any c _ HM.out).mono ?_; rintro e w2 ⟨rfl, hb2⟩) | (go_at_call 107; refine (rin_any c _ _ _ HM.out).mono ?_; rintro e w3 ⟨rfl, hb3⟩; rw [hi.out])))
    all_goals
      go_split_ands
      have hz2 := hb2.size
      have hz3 := hb3.size
      simp at hz2
      have B3 : Below w.heap.size w w3 := (((Below.refl _ w).alloc (Nat.le_refl _) _).drew.trans (hb2.mono (by simp))).trans (hb3.mono (by omega))
      go_wp2_with (go_at_call 104; refine (rnodes_any c _ HM.out).mono ?_; rintro e w4 ⟨rfl, hb4⟩)
      go_ret
      exact ⟨ret_u ha.out.symm, by first | exact B3.trans (hb4.mono (by omega)) | exact B3⟩
  · have hi := Lib.hid (inTop_no h)
    have ha := Lib.hid (atOr_out (v := n) h)
    clear h
    go_enter Tryz.func105, Tryz.ntmps105
    go_wp2_with fail
    go_region_held3 (fun w' => w'.cell? ⟨w.heap.size, 0, none⟩ = some (.int .i64 c.threads) ∧ w'.cell? ⟨w.heap.size, 1, none⟩ = some (.int .i64 c.buckets) ∧ w'.cell? ⟨w.heap.size, 2, none⟩ = some (.int .i64 c.inserts) ∧ w'.cell? ⟨w.heap.size, 3, none⟩ = some (.int .i64 c.fuel) ∧ w'.cell? ⟨w.heap.size, 4, none⟩ = some (.int .i64 c.calls))
      (first | go_keep | (go_split_ands; refine ⟨?_, ?_, ?_, ?_, ?_⟩ <;> first | (rw [hb3.cell (by have := hb2.size; simp at this; simp; omega)]; first | assumption | go_simp) | (rw [hb2.cell (by simp)]; go_simp)))
      ((first | (go_at_call 104; refine (rnodes_any c _ HM.out).mono ?_; rintro e w2 ⟨rfl, hb2⟩) | (go_at_call 107; refine (rin_any c _ _ _ HM.out).mono ?_; rintro e w3 ⟨rfl, hb3⟩; rw [hi.out])))
    all_goals
      go_split_ands
      have hz2 := hb2.size
      have hz3 := hb3.size
      simp at hz2
      have B3 : Below w.heap.size w w3 := (((Below.refl _ w).alloc (Nat.le_refl _) _).drew.trans (hb2.mono (by simp))).trans (hb3.mono (by omega))
      go_wp2_with fail
      go_ret
      exact ⟨ret_u ha.out.symm, B3⟩

set_option maxHeartbeats 1000000 in
theorem rword_any (c : Conf) (n : Int) (w : World) (hm : c.may = true) :
    Calls Tryz.prog 46 #[c.val, .int .i64 n] w fun e w' => e = .returned (.int .i64 (atOr n c.ops (c.nodes + n))) ∧ Below w.heap.size w w' := by
  have HM := Lib.hid hm
  have hob := ops_bounds c
  have hnb := nodes_bounds hm
  clear hm
  by_cases h : 0 ≤ n ∧ n < c.ops
  · have hi := Lib.hid (inTop_yes h)
    have ha := Lib.hid (atOr_in (v := (c.nodes + n)) h)
    have e1 : IntKind.i64.wrap (c.nodes + n) = c.nodes + n := IntWalk.i64_in _ (by omega)
    clear h
    go_enter Tryz.func46, Tryz.ntmps46
    go_wp2_with fail
    go_region_held3 (fun w' => w'.cell? ⟨w.heap.size, 0, none⟩ = some (.int .i64 c.threads) ∧ w'.cell? ⟨w.heap.size, 1, none⟩ = some (.int .i64 c.buckets) ∧ w'.cell? ⟨w.heap.size, 2, none⟩ = some (.int .i64 c.inserts) ∧ w'.cell? ⟨w.heap.size, 3, none⟩ = some (.int .i64 c.fuel) ∧ w'.cell? ⟨w.heap.size, 4, none⟩ = some (.int .i64 c.calls))
      (first | go_keep | (go_split_ands; refine ⟨?_, ?_, ?_, ?_, ?_⟩ <;> first | (rw [hb3.cell (by have := hb2.size; simp at this; simp; omega)]; first | assumption | go_simp) | (rw [hb2.cell (by simp)]; go_simp)))
      ((first | (go_at_call 108; refine (rops_any c _ HM.out).mono ?_; rintro e w2 ⟨rfl, hb2⟩) | (go_at_call 107; refine (rin_any c _ _ _ HM.out).mono ?_; rintro e w3 ⟨rfl, hb3⟩; rw [hi.out])))
    all_goals
      go_split_ands
      have hz2 := hb2.size
      have hz3 := hb3.size
      simp at hz2
      have B3 : Below w.heap.size w w3 := (((Below.refl _ w).alloc (Nat.le_refl _) _).drew.trans (hb2.mono (by simp))).trans (hb3.mono (by omega))
      go_wp2_with (go_at_call 104; refine (rnodes_any c _ HM.out).mono ?_; rintro e w4 ⟨rfl, hb4⟩)
      go_ret
      exact ⟨ret_u ha.out.symm, by first | exact B3.trans (hb4.mono (by omega)) | exact B3⟩
  · have hi := Lib.hid (inTop_no h)
    have ha := Lib.hid (atOr_out (v := (c.nodes + n)) h)
    clear h
    go_enter Tryz.func46, Tryz.ntmps46
    go_wp2_with fail
    go_region_held3 (fun w' => w'.cell? ⟨w.heap.size, 0, none⟩ = some (.int .i64 c.threads) ∧ w'.cell? ⟨w.heap.size, 1, none⟩ = some (.int .i64 c.buckets) ∧ w'.cell? ⟨w.heap.size, 2, none⟩ = some (.int .i64 c.inserts) ∧ w'.cell? ⟨w.heap.size, 3, none⟩ = some (.int .i64 c.fuel) ∧ w'.cell? ⟨w.heap.size, 4, none⟩ = some (.int .i64 c.calls))
      (first | go_keep | (go_split_ands; refine ⟨?_, ?_, ?_, ?_, ?_⟩ <;> first | (rw [hb3.cell (by have := hb2.size; simp at this; simp; omega)]; first | assumption | go_simp) | (rw [hb2.cell (by simp)]; go_simp)))
      ((first | (go_at_call 108; refine (rops_any c _ HM.out).mono ?_; rintro e w2 ⟨rfl, hb2⟩) | (go_at_call 107; refine (rin_any c _ _ _ HM.out).mono ?_; rintro e w3 ⟨rfl, hb3⟩; rw [hi.out])))
    all_goals
      go_split_ands
      have hz2 := hb2.size
      have hz3 := hb3.size
      simp at hz2
      have B3 : Below w.heap.size w w3 := (((Below.refl _ w).alloc (Nat.le_refl _) _).drew.trans (hb2.mono (by simp))).trans (hb3.mono (by omega))
      go_wp2_with fail
      go_ret
      exact ⟨ret_u ha.out.symm, B3⟩


end Go.Proofs.YtccmjljlfgbicaaGreat
