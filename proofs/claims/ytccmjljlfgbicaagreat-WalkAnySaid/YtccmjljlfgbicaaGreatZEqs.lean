/- Contracts of corrielaw10: have a walk of either kind come as far; have two worlds the same cells. Printed by eqgen.py. -/
import Derived.Test.YtccmjljlfgbicaaGreatZG15
import Derived.Test.YtccmjljlfgbicaaGreatZG16
import Derived.Test.YtccmjljlfgbicaaGreatZWalkE
import Derived.Deep.LoopGhost
import Derived.Deep.Cut
namespace Go.Proofs.YtccmjljlfgbicaaGreat
open Go.ChangeShapes Go.WideShapes Go.ChangeAt Go.RowKit

set_option maxRecDepth 100000 in
set_option maxHeartbeats 4000000 in
theorem same10_any (x : Walk) (w : World) :
    Calls Tryz.prog 32 #[x.val, x.val] w fun e w' => e = .returned (.bool true) ∧ Below w.heap.size w w' := by
  go_enter Tryz.func32, Tryz.ntmps32
  go_wp2
  go_ret
  exact ⟨rfl, below_twice w _ _⟩

set_option maxRecDepth 100000 in
set_option maxHeartbeats 4000000 in
theorem equal10_any {k : Blks} {r : RV} {s : St} (w : World) (h : Both k r s w) :
    Calls Tryz.prog 33 #[.pointer (some ⟨k.bw, 0, none⟩), r.val s] w fun e w' => e = .returned (.bool true) ∧ Below w.heap.size w w' := by
  have H := Lib.hid h
  have A0 := At.new w 45 (r.cells s)
  have D0 : Below w.heap.size w (w.alloc (.cells (r.cells s) 45)) := (Below.refl _ w).alloc (Nat.le_refl _) _
  clear h
  go_enter Tryz.func33, Tryz.ntmps33
  go_upto_region 1 with fail
  generalize w.alloc (.cells (r.cells s) 45) = w0 at *
  have HB := Lib.hid (H.out.below D0)
  obtain ⟨-, g5, -, gl⟩ := HB.out.holds.wfacts
  obtain ⟨⟨-, -, -, -, -, b5, b6, -, -, -, -, -, -, -, -, -, -⟩, -, bl⟩ := at17 A0
  have hsm := HB.out.holds.cells.small
  refine wp_region_J (l := [_, _, _, _, _, _, _, _, _, _, _, _, _, _, _, _, _, _, _, _, _]) (QG (fun j v => match j with | 0 => v = .pointer (some ⟨k.bw, 0, none⟩) | 1 => v = .pointer (some ⟨k.bw, 0, none⟩) | 2 => v = .pointer (some ⟨k.bw, 5, none⟩) | 3 => v = .pointer (some ⟨k.bc, 0, none⟩) | 4 => v = .int .i64 s.steps | 5 => v = .pointer (some ⟨w.heap.size, 5, none⟩) | 6 => v = .pointer (some ⟨w.heap.size, 6, none⟩) | 7 => v = .int .i64 s.steps | 8 => v = .bool false | 9 => v = .bool false | 10 => v = .pointer (some ⟨k.bw, 0, none⟩) | 11 => v = .pointer (some ⟨k.bw, 0, none⟩) | 12 => v = .pointer (some ⟨k.bw, 5, none⟩) | 13 => v = .pointer (some ⟨k.bc, 0, none⟩) | 14 => v = .int .i64 s.words.length | 15 => v = .pointer (some ⟨w.heap.size, 5, none⟩) | 16 => v = .pointer (some ⟨w.heap.size, 5, none⟩) | 17 => v = .slice r.w.1 s.words.length r.w.2 | 18 => v = .int .i64 s.words.length | 19 => v = .bool false | 20 => v = .bool false | _ => True) w0) (by kernel_rfl) (by kernel_rfl) (fun us => QG.start us) ⟨?_, ?_, ?_, ?_, ?_, ?_, ?_, ?_, ?_, ?_, ?_, ?_, ?_, ?_, ?_, ?_, ?_, ?_, ?_, ?_, ?_, trivial⟩ ?_
  · intro dn us w6 A hev hy hG hdn hdep K hK
    have e0 : A.eval (.tmp 0) = .pointer (some ⟨k.bw, 0, none⟩) := by rw [hev]; rfl
    rw [if_pos (by rfl)]
    unfold Oper.wp execOp
    generalize A.eval = ev at e0 ⊢
    go_simp
    exact hK _ _ (hG.first (by first | rfl | simp))
  · intro dn us w6 A hev hy hG hdn hdep K hK
    have d0 : dn 0 = true := allD_mem hdep (by decide)
    have e0 : A.eval (.tmp 6) = .pointer (some ⟨k.bw, 0, none⟩) := by rw [hev]; exact hG.pre 0 d0
    rw [if_pos (by rfl)]
    unfold Oper.wp execOp
    generalize A.eval = ev at e0 ⊢
    go_simp
    exact hK _ _ (hG.first (by first | rfl | simp))
  · intro dn us w6 A hev hy hG hdn hdep K hK
    have d1 : dn 1 = true := allD_mem hdep (by decide)
    have e0 : A.eval (.tmp 7) = .pointer (some ⟨k.bw, 0, none⟩) := by rw [hev]; exact hG.pre 1 d1
    rw [if_pos (by rfl)]
    unfold Oper.wp execOp
    generalize A.eval = ev at e0 ⊢
    go_simp
    exact hK _ _ (hG.first (by first | rfl | simp))
  · intro dn us w6 A hev hy hG hdn hdep K hK
    have d2 : dn 2 = true := allD_mem hdep (by decide)
    have e0 : A.eval (.tmp 8) = .pointer (some ⟨k.bw, 5, none⟩) := by rw [hev]; exact hG.pre 2 d2
    have cc0 : w6.cell? ⟨k.bw, 5, none⟩ = some (.pointer (some ⟨k.bc, 0, none⟩)) := by rw [hG.below.cell gl]; exact g5
    rw [if_pos (by rfl)]
    unfold Oper.wp execOp
    generalize A.eval = ev at e0 ⊢
    go_simp
    exact hK _ _ (hG.first (by first | rfl | simp))
  · intro dn us w6 A hev hy hG hdn hdep K hK
    have d3 : dn 3 = true := allD_mem hdep (by decide)
    have e0 : A.eval (.tmp 9) = .pointer (some ⟨k.bc, 0, none⟩) := by rw [hev]; exact hG.pre 3 d3
    have ef : A.eval (.func 24) = .func (.func 24) #[] #[] := by rw [hev]; rfl
    rw [if_pos (by rfl)]
    unfold Oper.wp execOp
    generalize A.eval = ev at e0 ef ⊢
    go_simp
    refine (steps_any _ (HB.out.holds.cells.below hG.below)).mono ?_
    rintro e wq ⟨rfl, rfl⟩
    exact hK _ _ (hG.first rfl)
  · intro dn us w6 A hev hy hG hdn hdep K hK
    have e0 : A.eval (.tmp 3) = .pointer (some ⟨w.heap.size, 0, none⟩) := by rw [hev]; rfl
    rw [if_pos (by rfl)]
    unfold Oper.wp execOp
    generalize A.eval = ev at e0 ⊢
    go_simp
    exact hK _ _ (hG.first (by first | rfl | simp))
  · intro dn us w6 A hev hy hG hdn hdep K hK
    have d5 : dn 5 = true := allD_mem hdep (by decide)
    have e0 : A.eval (.tmp 11) = .pointer (some ⟨w.heap.size, 5, none⟩) := by rw [hev]; exact hG.pre 5 d5
    rw [if_pos (by rfl)]
    unfold Oper.wp execOp
    generalize A.eval = ev at e0 ⊢
    go_simp
    exact hK _ _ (hG.first (by first | rfl | simp))
  · intro dn us w6 A hev hy hG hdn hdep K hK
    have d6 : dn 6 = true := allD_mem hdep (by decide)
    have e0 : A.eval (.tmp 12) = .pointer (some ⟨w.heap.size, 6, none⟩) := by rw [hev]; exact hG.pre 6 d6
    have cc0 : w6.cell? ⟨w.heap.size, 6, none⟩ = some (.int .i64 s.steps) := by rw [hG.below.cell bl]; exact b6
    rw [if_pos (by rfl)]
    unfold Oper.wp execOp
    generalize A.eval = ev at e0 ⊢
    go_simp
    exact hK _ _ (hG.first (by first | rfl | simp))
  · intro dn us w6 A hev hy hG hdn hdep K hK
    have d4 : dn 4 = true := allD_mem hdep (by decide)
    have d7 : dn 7 = true := allD_mem hdep (by decide)
    have e0 : A.eval (.tmp 10) = .int .i64 s.steps := by rw [hev]; exact hG.pre 4 d4
    have e1 : A.eval (.tmp 13) = .int .i64 s.steps := by rw [hev]; exact hG.pre 7 d7
    rw [if_pos (by rfl)]
    unfold Oper.wp execOp
    generalize A.eval = ev at e0 e1 ⊢
    go_simp
    exact hK _ _ (hG.first (by first | rfl | simp))
  · intro dn us w6 A hev hy hG hdn hdep K hK
    have d8 : dn 8 = true := allD_mem hdep (by decide)
    have e0 : A.eval (.tmp 14) = .bool false := by rw [hev]; exact hG.pre 8 d8
    rw [if_pos (by rfl)]
    unfold Oper.wp execOp
    generalize A.eval = ev at e0 ⊢
    go_simp
    exact hK _ _ (hG.first (by first | rfl | simp))
  · intro dn us w6 A hev hy hG hdn hdep K hK
    have d9 : dn 9 = true := allD_mem hdep (by decide)
    have e0 : A.eval (.tmp 0) = .pointer (some ⟨k.bw, 0, none⟩) := by rw [hev]; rfl
    have hg : us 9 = .bool false := hG.pre 9 d9
    rw [if_pos (by rw [hy]; show ((match us 9 with | .bool b => some b | _ => none) == some false) = true; rw [hg]; rfl)]
    unfold Oper.wp execOp
    generalize A.eval = ev at e0 ⊢
    go_simp
    exact hK _ _ (hG.first (by first | rfl | simp))
  · intro dn us w6 A hev hy hG hdn hdep K hK
    have d9 : dn 9 = true := allD_mem hdep (by decide)
    have d10 : dn 10 = true := allD_mem hdep (by decide)
    have e0 : A.eval (.tmp 16) = .pointer (some ⟨k.bw, 0, none⟩) := by rw [hev]; exact hG.pre 10 d10
    have hg : us 9 = .bool false := hG.pre 9 d9
    rw [if_pos (by rw [hy]; show ((match us 9 with | .bool b => some b | _ => none) == some false) = true; rw [hg]; rfl)]
    unfold Oper.wp execOp
    generalize A.eval = ev at e0 ⊢
    go_simp
    exact hK _ _ (hG.first (by first | rfl | simp))
  · intro dn us w6 A hev hy hG hdn hdep K hK
    have d9 : dn 9 = true := allD_mem hdep (by decide)
    have d11 : dn 11 = true := allD_mem hdep (by decide)
    have e0 : A.eval (.tmp 17) = .pointer (some ⟨k.bw, 0, none⟩) := by rw [hev]; exact hG.pre 11 d11
    have hg : us 9 = .bool false := hG.pre 9 d9
    rw [if_pos (by rw [hy]; show ((match us 9 with | .bool b => some b | _ => none) == some false) = true; rw [hg]; rfl)]
    unfold Oper.wp execOp
    generalize A.eval = ev at e0 ⊢
    go_simp
    exact hK _ _ (hG.first (by first | rfl | simp))
  · intro dn us w6 A hev hy hG hdn hdep K hK
    have d9 : dn 9 = true := allD_mem hdep (by decide)
    have d12 : dn 12 = true := allD_mem hdep (by decide)
    have e0 : A.eval (.tmp 18) = .pointer (some ⟨k.bw, 5, none⟩) := by rw [hev]; exact hG.pre 12 d12
    have cc0 : w6.cell? ⟨k.bw, 5, none⟩ = some (.pointer (some ⟨k.bc, 0, none⟩)) := by rw [hG.below.cell gl]; exact g5
    have hg : us 9 = .bool false := hG.pre 9 d9
    rw [if_pos (by rw [hy]; show ((match us 9 with | .bool b => some b | _ => none) == some false) = true; rw [hg]; rfl)]
    unfold Oper.wp execOp
    generalize A.eval = ev at e0 ⊢
    go_simp
    exact hK _ _ (hG.first (by first | rfl | simp))
  · intro dn us w6 A hev hy hG hdn hdep K hK
    have d9 : dn 9 = true := allD_mem hdep (by decide)
    have d13 : dn 13 = true := allD_mem hdep (by decide)
    have e0 : A.eval (.tmp 19) = .pointer (some ⟨k.bc, 0, none⟩) := by rw [hev]; exact hG.pre 13 d13
    have ef : A.eval (.func 80) = .func (.func 80) #[] #[] := by rw [hev]; rfl
    have hg : us 9 = .bool false := hG.pre 9 d9
    rw [if_pos (by rw [hy]; show ((match us 9 with | .bool b => some b | _ => none) == some false) = true; rw [hg]; rfl)]
    unfold Oper.wp execOp
    generalize A.eval = ev at e0 ef ⊢
    go_simp
    refine (clen_any _ (HB.out.holds.cells.below hG.below)).mono ?_
    rintro e wq ⟨rfl, rfl⟩
    exact hK _ _ (hG.first rfl)
  · intro dn us w6 A hev hy hG hdn hdep K hK
    have d9 : dn 9 = true := allD_mem hdep (by decide)
    have e0 : A.eval (.tmp 3) = .pointer (some ⟨w.heap.size, 0, none⟩) := by rw [hev]; rfl
    have hg : us 9 = .bool false := hG.pre 9 d9
    rw [if_pos (by rw [hy]; show ((match us 9 with | .bool b => some b | _ => none) == some false) = true; rw [hg]; rfl)]
    unfold Oper.wp execOp
    generalize A.eval = ev at e0 ⊢
    go_simp
    exact hK _ _ (hG.first (by first | rfl | simp))
  · intro dn us w6 A hev hy hG hdn hdep K hK
    have d9 : dn 9 = true := allD_mem hdep (by decide)
    have d15 : dn 15 = true := allD_mem hdep (by decide)
    have e0 : A.eval (.tmp 21) = .pointer (some ⟨w.heap.size, 5, none⟩) := by rw [hev]; exact hG.pre 15 d15
    have hg : us 9 = .bool false := hG.pre 9 d9
    rw [if_pos (by rw [hy]; show ((match us 9 with | .bool b => some b | _ => none) == some false) = true; rw [hg]; rfl)]
    unfold Oper.wp execOp
    generalize A.eval = ev at e0 ⊢
    go_simp
    exact hK _ _ (hG.first (by first | rfl | simp))
  · intro dn us w6 A hev hy hG hdn hdep K hK
    have d9 : dn 9 = true := allD_mem hdep (by decide)
    have d16 : dn 16 = true := allD_mem hdep (by decide)
    have e0 : A.eval (.tmp 22) = .pointer (some ⟨w.heap.size, 5, none⟩) := by rw [hev]; exact hG.pre 16 d16
    have cc0 : w6.cell? ⟨w.heap.size, 5, none⟩ = some (.slice r.w.1 s.words.length r.w.2) := by rw [hG.below.cell bl]; exact b5
    have hg : us 9 = .bool false := hG.pre 9 d9
    rw [if_pos (by rw [hy]; show ((match us 9 with | .bool b => some b | _ => none) == some false) = true; rw [hg]; rfl)]
    unfold Oper.wp execOp
    generalize A.eval = ev at e0 ⊢
    go_simp
    exact hK _ _ (hG.first (by first | rfl | simp))
  · intro dn us w6 A hev hy hG hdn hdep K hK
    have d9 : dn 9 = true := allD_mem hdep (by decide)
    have d17 : dn 17 = true := allD_mem hdep (by decide)
    have e0 : A.eval (.tmp 23) = .slice r.w.1 s.words.length r.w.2 := by rw [hev]; exact hG.pre 17 d17
    have hg : us 9 = .bool false := hG.pre 9 d9
    rw [if_pos (by rw [hy]; show ((match us 9 with | .bool b => some b | _ => none) == some false) = true; rw [hg]; rfl)]
    unfold Oper.wp execOp
    generalize A.eval = ev at e0 ⊢
    go_simp
    exact hK _ _ (hG.first (by first | rfl | simp))
  · intro dn us w6 A hev hy hG hdn hdep K hK
    have d9 : dn 9 = true := allD_mem hdep (by decide)
    have d14 : dn 14 = true := allD_mem hdep (by decide)
    have d18 : dn 18 = true := allD_mem hdep (by decide)
    have e0 : A.eval (.tmp 20) = .int .i64 s.words.length := by rw [hev]; exact hG.pre 14 d14
    have e1 : A.eval (.tmp 24) = .int .i64 s.words.length := by rw [hev]; exact hG.pre 18 d18
    have hg : us 9 = .bool false := hG.pre 9 d9
    rw [if_pos (by rw [hy]; show ((match us 9 with | .bool b => some b | _ => none) == some false) = true; rw [hg]; rfl)]
    unfold Oper.wp execOp
    generalize A.eval = ev at e0 e1 ⊢
    go_simp
    exact hK _ _ (hG.first (by first | rfl | simp))
  · intro dn us w6 A hev hy hG hdn hdep K hK
    have d9 : dn 9 = true := allD_mem hdep (by decide)
    have d19 : dn 19 = true := allD_mem hdep (by decide)
    have e0 : A.eval (.tmp 15) = .bool false := by rw [hev]; exact hG.pre 9 d9
    have e1 : A.eval (.const (.bool true)) = .bool true := by rw [hev]; rfl
    have e2 : A.eval (.tmp 25) = .bool false := by rw [hev]; exact hG.pre 19 d19
    rw [if_pos (by rfl)]
    unfold Oper.wp execOp
    generalize A.eval = ev at e0 e1 e2 ⊢
    go_simp
    exact hK _ _ (hG.first (by first | rfl | simp))
  intro dn us w6 hG hall
  have u20 : us 20 = .bool false := hG.pre 20 (hall 20 (by decide))
  have hb0 := hG.below
  simp only [fillA, fillT, Nat.reduceAdd, List.setIfInBounds_toArray, List.set_cons_zero, List.set_cons_succ, u20]
  clear hG hall u20
  go_wp2_with fail
  go_loopg [5] s.words.length (fun gg v5 wr => ∃ i : Nat, v5 = .int .i64 i ∧ i + gg = s.words.length ∧ Below w0.heap.size w0 wr)
  case atStart => exact ⟨0, rfl, by omega, hb0⟩
  case round =>
    obtain ⟨i, rfl, hi, hB⟩ := hrel
    have c5 : wr.cell? ⟨w.heap.size, 5, none⟩ = some (.slice r.w.1 s.words.length r.w.2) := by rw [hB.cell bl]; exact b5
    by_cases hlt : i < s.words.length
    · obtain ⟨x, hx⟩ : ∃ x, s.words[i]? = some x := ⟨_, List.getElem?_eq_getElem hlt⟩
      obtain ⟨b, o, hbo, hblt, hbc⟩ := read_word HB.out.ref.words hx
      have hpx : peekL s.words (i : Int) = x := peekL_in hx
      have b5i := b5
      rw [hbo] at b5i
      clear hbo hx
      go_wp2_with fail
      refine wp_region_J (l := [_, _, _, _, _, _, _, _, _, _, _, _, _]) (QG (fun j v => match j with | 0 => v = .pointer (some ⟨k.bw, 0, none⟩) | 1 => v = .pointer (some ⟨k.bw, 0, none⟩) | 2 => v = .pointer (some ⟨k.bw, 5, none⟩) | 3 => v = .pointer (some ⟨k.bc, 0, none⟩) | 4 => v = .int .i64 i | 5 => v = .int .u64 x | 6 => v = .pointer (some ⟨w.heap.size, 5, none⟩) | 7 => v = .pointer (some ⟨w.heap.size, 5, none⟩) | 8 => v = .slice (some ⟨b, o, none⟩) s.words.length r.w.2 | 9 => v = .int .i64 i | 10 => v = .pointer (some ⟨b, o + i, none⟩) | 11 => v = .int .u64 x | 12 => v = .bool false | _ => True) wr) (by kernel_rfl) (by kernel_rfl) (fun us => QG.start us) ⟨?_, ?_, ?_, ?_, ?_, ?_, ?_, ?_, ?_, ?_, ?_, ?_, ?_, trivial⟩ ?_
      · intro dn us w6 A hev hy hG hdn hdep K hK
        have e0 : A.eval (.tmp 0) = .pointer (some ⟨k.bw, 0, none⟩) := by rw [hev]; rfl
        rw [if_pos (by rfl)]
        unfold Oper.wp execOp
        generalize A.eval = ev at e0 ⊢
        go_simp
        exact hK _ _ (hG.first (by first | rfl | simp))
      · intro dn us w6 A hev hy hG hdn hdep K hK
        have d0 : dn 0 = true := allD_mem hdep (by decide)
        have e0 : A.eval (.tmp 35) = .pointer (some ⟨k.bw, 0, none⟩) := by rw [hev]; exact hG.pre 0 d0
        rw [if_pos (by rfl)]
        unfold Oper.wp execOp
        generalize A.eval = ev at e0 ⊢
        go_simp
        exact hK _ _ (hG.first (by first | rfl | simp))
      · intro dn us w6 A hev hy hG hdn hdep K hK
        have d1 : dn 1 = true := allD_mem hdep (by decide)
        have e0 : A.eval (.tmp 36) = .pointer (some ⟨k.bw, 0, none⟩) := by rw [hev]; exact hG.pre 1 d1
        rw [if_pos (by rfl)]
        unfold Oper.wp execOp
        generalize A.eval = ev at e0 ⊢
        go_simp
        exact hK _ _ (hG.first (by first | rfl | simp))
      · intro dn us w6 A hev hy hG hdn hdep K hK
        have d2 : dn 2 = true := allD_mem hdep (by decide)
        have e0 : A.eval (.tmp 37) = .pointer (some ⟨k.bw, 5, none⟩) := by rw [hev]; exact hG.pre 2 d2
        have cc0 : w6.cell? ⟨k.bw, 5, none⟩ = some (.pointer (some ⟨k.bc, 0, none⟩)) := by rw [(hB.trans (hG.below.mono hB.size)).cell gl]; exact g5
        rw [if_pos (by rfl)]
        unfold Oper.wp execOp
        generalize A.eval = ev at e0 ⊢
        go_simp
        exact hK _ _ (hG.first (by first | rfl | simp))
      · intro dn us w6 A hev hy hG hdn hdep K hK
        have e0 : A.eval (.tmp 5) = .int .i64 i := by rw [hev]; rfl
        rw [if_pos (by rfl)]
        unfold Oper.wp execOp
        generalize A.eval = ev at e0 ⊢
        go_simp
        exact hK _ _ (hG.first (by first | rfl | simp))
      · intro dn us w6 A hev hy hG hdn hdep K hK
        have d3 : dn 3 = true := allD_mem hdep (by decide)
        have d4 : dn 4 = true := allD_mem hdep (by decide)
        have e0 : A.eval (.tmp 38) = .pointer (some ⟨k.bc, 0, none⟩) := by rw [hev]; exact hG.pre 3 d3
        have e1 : A.eval (.tmp 39) = .int .i64 i := by rw [hev]; exact hG.pre 4 d4
        have ef : A.eval (.func 45) = .func (.func 45) #[] #[] := by rw [hev]; rfl
        rw [if_pos (by rfl)]
        unfold Oper.wp execOp
        generalize A.eval = ev at e0 e1 ef ⊢
        go_simp
        refine (peek_any i _ (HB.out.holds.cells.below (hB.trans (hG.below.mono hB.size)))).mono ?_
        rintro e wq ⟨rfl, rfl⟩
        exact hK _ _ (hG.first (by rw [hpx]; rfl))
      · intro dn us w6 A hev hy hG hdn hdep K hK
        have e0 : A.eval (.tmp 3) = .pointer (some ⟨w.heap.size, 0, none⟩) := by rw [hev]; rfl
        rw [if_pos (by rfl)]
        unfold Oper.wp execOp
        generalize A.eval = ev at e0 ⊢
        go_simp
        exact hK _ _ (hG.first (by first | rfl | simp))
      · intro dn us w6 A hev hy hG hdn hdep K hK
        have d6 : dn 6 = true := allD_mem hdep (by decide)
        have e0 : A.eval (.tmp 41) = .pointer (some ⟨w.heap.size, 5, none⟩) := by rw [hev]; exact hG.pre 6 d6
        rw [if_pos (by rfl)]
        unfold Oper.wp execOp
        generalize A.eval = ev at e0 ⊢
        go_simp
        exact hK _ _ (hG.first (by first | rfl | simp))
      · intro dn us w6 A hev hy hG hdn hdep K hK
        have d7 : dn 7 = true := allD_mem hdep (by decide)
        have e0 : A.eval (.tmp 42) = .pointer (some ⟨w.heap.size, 5, none⟩) := by rw [hev]; exact hG.pre 7 d7
        have cc0 : w6.cell? ⟨w.heap.size, 5, none⟩ = some (.slice (some ⟨b, o, none⟩) s.words.length r.w.2) := by rw [(hB.trans (hG.below.mono hB.size)).cell bl]; exact b5i
        rw [if_pos (by rfl)]
        unfold Oper.wp execOp
        generalize A.eval = ev at e0 ⊢
        go_simp
        exact hK _ _ (hG.first (by first | rfl | simp))
      · intro dn us w6 A hev hy hG hdn hdep K hK
        have e0 : A.eval (.tmp 5) = .int .i64 i := by rw [hev]; rfl
        rw [if_pos (by rfl)]
        unfold Oper.wp execOp
        generalize A.eval = ev at e0 ⊢
        go_simp
        exact hK _ _ (hG.first (by first | rfl | simp))
      · intro dn us w6 A hev hy hG hdn hdep K hK
        have d8 : dn 8 = true := allD_mem hdep (by decide)
        have d9 : dn 9 = true := allD_mem hdep (by decide)
        have e0 : A.eval (.tmp 43) = .slice (some ⟨b, o, none⟩) s.words.length r.w.2 := by rw [hev]; exact hG.pre 8 d8
        have e1 : A.eval (.tmp 44) = .int .i64 i := by rw [hev]; exact hG.pre 9 d9
        rw [if_pos (by rfl)]
        unfold Oper.wp execOp
        generalize A.eval = ev at e0 e1 ⊢
        go_simp
        exact hK _ _ (hG.first (by first | rfl | simp))
      · intro dn us w6 A hev hy hG hdn hdep K hK
        have d10 : dn 10 = true := allD_mem hdep (by decide)
        have e0 : A.eval (.tmp 45) = .pointer (some ⟨b, o + i, none⟩) := by rw [hev]; exact hG.pre 10 d10
        have cc0 : w6.cell? ⟨b, o + i, none⟩ = some (.int .u64 x) := by rw [(hB.trans (hG.below.mono hB.size)).cell hblt]; exact hbc
        rw [if_pos (by rfl)]
        unfold Oper.wp execOp
        generalize A.eval = ev at e0 ⊢
        go_simp
        exact hK _ _ (hG.first (by first | rfl | simp))
      · intro dn us w6 A hev hy hG hdn hdep K hK
        have d5 : dn 5 = true := allD_mem hdep (by decide)
        have d11 : dn 11 = true := allD_mem hdep (by decide)
        have e0 : A.eval (.tmp 40) = .int .u64 x := by rw [hev]; exact hG.pre 5 d5
        have e1 : A.eval (.tmp 46) = .int .u64 x := by rw [hev]; exact hG.pre 11 d11
        rw [if_pos (by rfl)]
        unfold Oper.wp execOp
        generalize A.eval = ev at e0 e1 ⊢
        go_simp
        exact hK _ _ (hG.first (by first | rfl | simp))
      intro dn us w6 hG hall
      have u12 : us 12 = .bool false := hG.pre 12 (hall 12 (by decide))
      have hb1 := hB.trans (hG.below.mono hB.size)
      simp only [fillA, fillT, Nat.reduceAdd, List.setIfInBounds_toArray, List.set_cons_zero, List.set_cons_succ, u12]
      clear hG hall u12
      go_wp2_with fail
      go_roundg (s.words.length - (i + 1))
      case measure => omega
      case rel => exact ⟨i + 1, rfl, by omega, hb1⟩
    · have e : i = s.words.length := by omega
      go_wp2_with fail
      go_ret
      exact ⟨rfl, D0.trans (hB.mono D0.size)⟩
end Go.Proofs.YtccmjljlfgbicaaGreat

