/- Contracts of the document's answer: one more in a list of counts. -/
import Derived.Test.YtccmjljlfgbicaaGreatRefH
namespace Go.Proofs.YtccmjljlfgbicaaGreat
open Go.ChangeShapes Go.WideShapes Go.ChangeAt Go.RowKit

theorem i64info : (Tryz.prog.info? 3).map (fun i => (i.zero.map Value.cells, i.size, i.bytes)) = some (some #[.int .i64 0], 1, 8) := by kernel_rfl
theorem intsV_len (l : List Int) : (intsV l).length = l.length := by simp [intsV]
theorem intsV_one (l : List Int) : ∀ u ∈ intsV l, u.oneCell' = true := by
  intro u hu
  obtain ⟨x, _, rfl⟩ := List.mem_map.1 hu
  rfl
theorem intsV_set (l : List Int) (n : Nat) (x : Int) : (intsV l).set n (.int .i64 x) = intsV (l.set n x) := by simp [intsV, List.map_set]

set_option maxRecDepth 100000 in
set_option maxHeartbeats 1000000 in
theorem rmore_any {l : List Int} {ao : Option Addr} {cap : Nat} (k : Nat) (w : World) (h : ReadAt w ao (intsV l)) (hk : k < l.length) (hl : l.length ≤ 64) (hx : ∀ x ∈ l, 0 ≤ x ∧ x ≤ 65536) :
    Calls Tryz.prog 134 #[.slice ao l.length cap, .int .i64 k] w fun e w' => ∃ (g cap' : Nat), e = .returned (.slice (some ⟨g, 0, none⟩) l.length cap') ∧ ReadAt w' (some ⟨g, 0, none⟩) (intsV (l.set k (l.getD k 0 + 1))) ∧ Below w.heap.size w w' ∧ w.heap.size ≤ g := by
  obtain ⟨i0, z0, hi0, hz0, hz3, hz1, hz2⟩ := info_of i64info
  obtain ⟨b, o, rfl, lb⟩ := read_some h (by rw [intsV_len]; omega)
  obtain ⟨y, hy⟩ : ∃ y, l[k]? = some y := ⟨_, List.getElem?_eq_getElem hk⟩
  have hyr := hx y (List.mem_of_getElem? hy)
  have ey : IntKind.i64.wrap (y + 1) = y + 1 := IntWalk.i64_in _ (by omega)
  have HY := Lib.hid (show l.getD k 0 = y by rw [List.getD_eq_getElem?_getD, hy]; rfl)
  have HB := Lib.hid (fun o3 => h.below ((Below.refl _ w).alloc (Nat.le_refl _) o3))
  have HX := Lib.hid hy
  clear h hx hy
  go_enter Tryz.func134, Tryz.ntmps134
  go_wp2_with (at_builtin; refine wpList_append_own _ rfl (.tmp 6) (.tmp 7) 39 rfl w.heap.size 3 i0 z0 1 8 Tryz.underlying39 hi0 hz0 hz1 hz2 (by rw [hz3]; rfl) (by decide) (.slice (some ⟨w.heap.size, 0, none⟩) 0 0) 0 [] rfl (World.ownsRow_lit w #[] 0 (Nat.le_refl _) (by unfold maxLen; omega) rfl) ⟨b, o, none⟩ l.length cap (intsV l) rfl ?ma1 ?ma2 ?ma3 ?ma4 ?ma5 ?ma6 ?man)
  case ma1 => rw [intsV_len]; omega
  case ma2 => exact cells_add (HB.out _)
  case ma3 => exact intsV_one l
  case ma4 => unfold maxLen; omega
  case ma5 => omega
  case ma6 => simp
  case man =>
    intro v' w' hR hg hne
    obtain ⟨g', cap', rfl, hg1, hg2⟩ := row_form hR hne
    have hB' : Below w.heap.size w w' := grown_below ((Below.refl _ w).alloc (Nat.le_refl _) _) hg (Nat.le_refl _) (by simp)
    have c0 := row_cell hR (j := k) (u := .int .i64 y) (by simp [intsV, HX.out])
    have f0 := hR.frozenAt k
    have hst := hR.stored k (.int .i64 (y + 1))
    rw [intsV_set] at hst
    have HST := Lib.hid (And.intro hst (grown_below hB' hst.2 hg1 hB'.size))
    clear hR hg hne hst
    go_wp2_with fail
    go_ret
    exact ⟨g', cap', rfl, by rw [HY.out]; exact readAt_row HST.out.1.1, HST.out.2, hg1⟩

end Go.Proofs.YtccmjljlfgbicaaGreat
