/- Contracts of a scan's arriving and judging. Printed by scngen.py. -/
import Derived.Test.YtccmjljlfgbicaaGreatSq
import Derived.Test.YtccmjljlfgbicaaGreatZM1
import Derived.Test.YtccmjljlfgbicaaGreatWalkA
import Derived.Test.YtccmjljlfgbicaaGreatBut
namespace Go.Proofs.YtccmjljlfgbicaaGreat
open Go.ChangeShapes Go.WideShapes Go.ChangeAt Go.RowKit

theorem scn_facts {W : World} {b : Nat} {x : Scn} {lv pv : Value} (h : At W b 53 (x.cells lv pv)) :
    (W.cell? ⟨b, 0, none⟩ = some (.int .i64 x.call.kind) ∧ W.cell? ⟨b, 1, none⟩ = some (.int .u64 x.call.key) ∧ W.cell? ⟨b, 2, none⟩ = some (.int .u64 x.call.val) ∧ W.cell? ⟨b, 3, none⟩ = some (.int .i64 x.call.limit) ∧ W.cell? ⟨b, 4, none⟩ = some (.int .i64 x.phase) ∧ W.cell? ⟨b, 5, none⟩ = some (.int .i64 x.bucket) ∧ W.cell? ⟨b, 6, none⟩ = some (.int .i64 x.node) ∧ W.cell? ⟨b, 7, none⟩ = some (.int .u64 x.next) ∧ W.cell? ⟨b, 8, none⟩ = some lv ∧ W.cell? ⟨b, 9, none⟩ = some (.bool x.done)) ∧ b < W.heap.size :=
  ⟨⟨h.cell 0, h.cell 1, h.cell 2, h.cell 3, h.cell 4, h.cell 5, h.cell 6, h.cell 7, h.cell 8, h.cell 9⟩, h.lt⟩
theorem Only.thenAt {b : Nat} {w w' w'' : World} (h : Only (fun j => j = b) w w') (ho : Only (fun j => j = b) w' w'') : Only (fun j => j = b) w w'' := h.trans ho

set_option maxRecDepth 100000 in
set_option maxHeartbeats 4000000 in
theorem sarrive_on {k : Blks} {s : St} (x : Scn) {lv pv : Value} (n : Int) (b : Nat) (w : World) (h : Holds k s w) (hb : Out k b) (hx : At w b 53 (x.cells lv pv)) (h0 : n ≠ 0) (hk : s.key n ≤ x.call.val) :
    Calls Tryz.prog 69 #[.pointer (some ⟨b, 0, none⟩), .pointer (some ⟨k.bw, 0, none⟩), .int .i64 n] w fun e w' => e = .returned (.tuple #[]) ∧ At w' b 53 (Scn.cells { x with node := n, phase := 1 } lv pv) ∧ Only (fun j => j = b) w w' := by
  obtain ⟨⟨g0, g1, g2, g3, g4⟩, g5, g6, gl⟩ := h.wfacts
  have nb : ¬ b = k.bw := hb.2.1
  have nb' : ¬ k.bw = b := fun e => nb e.symm
  have h0' : (n == 0) = false := by simpa using h0
  have h0'' : (n != 0) = true := by simpa using h0
  have HH := Lib.hid h
  have HB := Lib.hid hb
  clear g0 g1 g2 g3 g4 g5 h hb h0
  go_enter Tryz.func69, Tryz.ntmps69
  go_upto_region 1 with (refine wpl_st rfl 3 _ _ rfl (Scn.cells { x with node := n } lv pv) rfl _ rfl hx (by kernel_rfl) rfl rfl rfl ?_; intro w1 A1 O1)
  have g6' : w1.cell? ⟨k.bw, 6, none⟩ = some (.pointer (some ⟨k.bb, 0, none⟩)) := cell_only g6 O1 nb'
  have x2 : w1.cell? ⟨b, 2, none⟩ = some (.int .u64 x.call.val) := A1.cell 2
  have lb := A1.lt
  have lw : k.bw < w1.heap.size := Nat.lt_of_lt_of_le gl O1.size
  have H1 := Lib.hid (HH.out.but HB.out O1)
  clear g6
  go_region_held3 (fun w' => w'.cell? ⟨k.bw, 6, none⟩ = some (.pointer (some ⟨k.bb, 0, none⟩)) ∧ w'.cell? ⟨b, 2, none⟩ = some (.int .u64 x.call.val))
    (first | go_keep | (refine ⟨?_, ?_⟩ <;> (rw [hb2.cell (by simp; omega)]; go_simp)))
    ((go_at_call 36; refine (key_any n _ H1.out.drew).mono ?_; rintro e w2 ⟨rfl, hb2⟩))
  have D2 : Below w1.heap.size w1 w2 := (Below.refl _ w1).drew.trans hb2
  have A2 := A1.below' D2
  go_wp2_with (refine wpl_st rfl 3 _ _ rfl (Scn.cells { x with node := n, phase := 1 } lv pv) rfl _ rfl A2 (by kernel_rfl) rfl rfl rfl ?_; intro w3 A3 O3)
  refine bodyPost_ret (results_none rfl _ _ _) rfl ?_
  exact ⟨rfl, A3, (O1.thenBelow D2).trans O3⟩

set_option maxRecDepth 100000 in
set_option maxHeartbeats 8000000 in
theorem sarrive_end {k : Blks} {s : St} (c : GCall) (phase node next : Int) (dn0 : Bool) (er : Int) (rd : Bool) (prs l : List (Int × Int)) {N : Nat → Prop} {lv pv : Value} (n : Int) (b : Nat) (w : World) (h : Holds k s w) (hb : Out k b) (hx : At w b 53 (Scn.cells ⟨c, phase, 0, node, next, [l], dn0, er, rd, prs⟩ lv pv)) (hI : ListsIn w N lv [l]) (hl : l.length ≤ 100000) (hc : s.c.buckets = 1) (hN : ∀ b', w.heap.size ≤ b' → N b') (hNb : ¬ N b) (hk : ¬ (n ≠ 0 ∧ s.key n ≤ c.val)) :
    Calls Tryz.prog 69 #[.pointer (some ⟨b, 0, none⟩), .pointer (some ⟨k.bw, 0, none⟩), .int .i64 n] w fun e w' => e = .returned (.tuple #[]) ∧ ∃ pv', At w' b 53 (Scn.cells ⟨c, 0, 1, n, next, [l], true, 0, true, mrg [l] c.limit⟩ lv pv') ∧ PairsIn w' N pv' (mrg [l] c.limit) ∧ Only (fun j => j = b) w w' := by
  obtain ⟨⟨g0, g1, g2, g3, g4⟩, g5, g6, gl⟩ := h.wfacts
  rw [hc] at g1
  have nb : ¬ b = k.bw := hb.2.1
  have nb' : ¬ k.bw = b := fun e => nb e.symm
  have HH := Lib.hid h
  have HB := Lib.hid hb
  have HC := Lib.hid hc
  have HI := Lib.hid hI
  have HN := Lib.hid hN
  have HNB := Lib.hid hNb
  clear g0 g2 g3 g4 g5 h hb hc hI hN hNb
  by_cases h0 : n = 0
  · have h0' : (n != 0) = false := by simpa using h0
    have H0 := Lib.hid h0
    clear hk h0
    go_enter Tryz.func69, Tryz.ntmps69
    go_upto_region 1 with (refine wpl_st rfl 3 _ _ rfl (Scn.cells ⟨c, phase, 0, n, next, [l], dn0, er, rd, prs⟩ lv pv) rfl _ rfl hx (by kernel_rfl) rfl rfl rfl ?_; intro w1 A1 O1)
    have lw : k.bw < w1.heap.size := Nat.lt_of_lt_of_le gl O1.size
    have HZ := Lib.hid h0'
    clear h0'
    refine wp_region_J (l := [_, _, _, _, _, _, _, _, _, _, _, _, _, _, _, _]) (QG (fun j v => match j with | 0 => v = .int .i64 n | 1 => v = .bool false | 2 => v = .bool false | 15 => v = .bool false | _ => True) w1) (by kernel_rfl) (by kernel_rfl) (fun us => QG.start us) ⟨?_, ?_, ?_, ?_, ?_, ?_, ?_, ?_, ?_, ?_, ?_, ?_, ?_, ?_, ?_, ?_, trivial⟩ ?_
    · intro dn us w6 A hev hy hG hdn hdep K hK
      have e0 : A.eval (.tmp 2) = .int .i64 n := by rw [hev]; rfl
      rw [if_pos (by rfl)]; unfold Oper.wp execOp; generalize A.eval = ev at e0 ⊢; go_simp; exact hK _ _ (hG.first (by first | rfl | (simp; done) | (simp; omega) | (simp; assumption)))
    · intro dn us w6 A hev hy hG hdn hdep K hK
      have e0 : A.eval (.tmp 10) = .int .i64 n := by rw [hev]; exact hG.pre 0 (dm 0 hdep rfl)
      have e1 : A.eval (.const (.int .i64 0)) = .int .i64 0 := by rw [hev]; rfl
      have hle := HZ.out
      rw [if_pos (by rfl)]; unfold Oper.wp execOp; generalize A.eval = ev at e0 e1 ⊢; go_simp; exact hK _ _ (hG.first (by first | rfl | (simp; done) | (simp; omega) | (simp; assumption)))
    · intro dn us w6 A hev hy hG hdn hdep K hK
      have e0 : A.eval (.tmp 11) = .bool false := by rw [hev]; exact hG.pre 1 (dm 1 hdep rfl)
      rw [if_pos (by rfl)]; unfold Oper.wp execOp; generalize A.eval = ev at e0 ⊢; go_simp; exact hK _ _ (hG.first (by first | rfl | (simp; done) | (simp; omega) | (simp; assumption)))
    · intro dn us w6 A hev hy hG hdn hdep K hK
      have hg : us 2 = .bool false := hG.pre 2 (dm 2 hdep rfl)
      rw [if_neg (by rw [hy]; exact yn true hg rfl)]
      exact hK _ _ (hG.first trivial)
    · intro dn us w6 A hev hy hG hdn hdep K hK
      have hg : us 2 = .bool false := hG.pre 2 (dm 2 hdep rfl)
      rw [if_neg (by rw [hy]; exact yn true hg rfl)]
      exact hK _ _ (hG.first trivial)
    · intro dn us w6 A hev hy hG hdn hdep K hK
      have hg : us 2 = .bool false := hG.pre 2 (dm 2 hdep rfl)
      rw [if_neg (by rw [hy]; exact yn true hg rfl)]
      exact hK _ _ (hG.first trivial)
    · intro dn us w6 A hev hy hG hdn hdep K hK
      have hg : us 2 = .bool false := hG.pre 2 (dm 2 hdep rfl)
      rw [if_neg (by rw [hy]; exact yn true hg rfl)]
      exact hK _ _ (hG.first trivial)
    · intro dn us w6 A hev hy hG hdn hdep K hK
      have hg : us 2 = .bool false := hG.pre 2 (dm 2 hdep rfl)
      rw [if_neg (by rw [hy]; exact yn true hg rfl)]
      exact hK _ _ (hG.first trivial)
    · intro dn us w6 A hev hy hG hdn hdep K hK
      have hg : us 2 = .bool false := hG.pre 2 (dm 2 hdep rfl)
      rw [if_neg (by rw [hy]; exact yn true hg rfl)]
      exact hK _ _ (hG.first trivial)
    · intro dn us w6 A hev hy hG hdn hdep K hK
      have hg : us 2 = .bool false := hG.pre 2 (dm 2 hdep rfl)
      rw [if_neg (by rw [hy]; exact yn true hg rfl)]
      exact hK _ _ (hG.first trivial)
    · intro dn us w6 A hev hy hG hdn hdep K hK
      have hg : us 2 = .bool false := hG.pre 2 (dm 2 hdep rfl)
      rw [if_neg (by rw [hy]; exact yn true hg rfl)]
      exact hK _ _ (hG.first trivial)
    · intro dn us w6 A hev hy hG hdn hdep K hK
      have hg : us 2 = .bool false := hG.pre 2 (dm 2 hdep rfl)
      rw [if_neg (by rw [hy]; exact yn true hg rfl)]
      exact hK _ _ (hG.first trivial)
    · intro dn us w6 A hev hy hG hdn hdep K hK
      have hg : us 2 = .bool false := hG.pre 2 (dm 2 hdep rfl)
      rw [if_neg (by rw [hy]; exact yn true hg rfl)]
      exact hK _ _ (hG.first trivial)
    · intro dn us w6 A hev hy hG hdn hdep K hK
      have hg : us 2 = .bool false := hG.pre 2 (dm 2 hdep rfl)
      rw [if_neg (by rw [hy]; exact yn true hg rfl)]
      exact hK _ _ (hG.first trivial)
    · intro dn us w6 A hev hy hG hdn hdep K hK
      have hg : us 2 = .bool false := hG.pre 2 (dm 2 hdep rfl)
      rw [if_neg (by rw [hy]; exact yn true hg rfl)]
      exact hK _ _ (hG.first trivial)
    · intro dn us w6 A hev hy hG hdn hdep K hK
      have e0 : A.eval (.tmp 12) = .bool false := by rw [hev]; exact hG.pre 2 (dm 2 hdep rfl)
      have e1 : A.eval (.const (.bool false)) = .bool false := by rw [hev]; rfl
      rw [if_pos (by rfl)]; unfold Oper.wp execOp; generalize A.eval = ev at e0 e1 ⊢; go_simp; exact hK _ _ (hG.first (by first | rfl | (simp; done) | (simp; omega) | (simp; assumption)))
    intro dn us w2 hG hall
    have u15 : us 15 = .bool false := hG.pre 15 (hall 15 (by decide))
    have D2 := hG.below
    simp only [fillA, fillT, Act.put, Nat.reduceAdd, List.setIfInBounds_toArray, List.set_cons_zero, List.set_cons_succ, u15]
    clear hG hall u15
    have A2 := A1.below' D2
    have g1w := cell_only g1 O1 nb'
    have g1p : w2.cell? ⟨k.bw, 1, none⟩ = some (.int .i64 1) := by rw [D2.cell lw]; exact g1w
    have z5 : w2.cell? ⟨b, 5, none⟩ = some (.int .i64 0) := A2.cell 5
    have lw2 : k.bw < w2.heap.size := Nat.lt_of_lt_of_le lw D2.size
    clear g1w g1
    go_upto_region 5 with (first
      | (refine wpl_st rfl 3 _ _ rfl (Scn.cells ⟨c, 0, 1, n, next, [l], dn0, er, rd, prs⟩ lv pv) rfl _ rfl A3 (by kernel_rfl) rfl rfl rfl ?_; intro w4 A4 O4)
      | (refine wpl_st rfl 3 _ _ rfl (Scn.cells ⟨c, phase, 1, n, next, [l], dn0, er, rd, prs⟩ lv pv) rfl _ rfl A2 (by kernel_rfl) rfl rfl rfl ?_; intro w3 A3 O3))
    have g1q := cell_only (cell_only g1p O3 nb') O4 nb'
    have y5 : w4.cell? ⟨b, 5, none⟩ = some (.int .i64 1) := A4.cell 5
    clear g1p z5
    refine wp_region_J (l := [_, _, _, _, _, _, _, _, _, _]) (QG (fun j v => match j with | 0 => v = .pointer (some ⟨b, 0, none⟩) | 1 => v = .pointer (some ⟨b, 0, none⟩) | 2 => v = .pointer (some ⟨b, 5, none⟩) | 3 => v = .int .i64 1 | 4 => v = .pointer (some ⟨k.bw, 0, none⟩) | 5 => v = .pointer (some ⟨k.bw, 0, none⟩) | 6 => v = .pointer (some ⟨k.bw, 0, none⟩) | 7 => v = .pointer (some ⟨k.bw, 1, none⟩) | 8 => v = .int .i64 1 | 9 => v = .bool true | _ => True) w4) (by kernel_rfl) (by kernel_rfl) (fun us => QG.start us) ⟨?_, ?_, ?_, ?_, ?_, ?_, ?_, ?_, ?_, ?_, trivial⟩ ?_
    · intro dn us w6 A hev hy hG hdn hdep K hK
      have e0 : A.eval (.tmp 0) = .pointer (some ⟨b, 0, none⟩) := by rw [hev]; rfl
      rw [if_pos (by rfl)]; unfold Oper.wp execOp; generalize A.eval = ev at e0 ⊢; go_simp; exact hK _ _ (hG.first (by first | rfl | (simp; done) | (simp; omega) | (simp; assumption)))
    · intro dn us w6 A hev hy hG hdn hdep K hK
      have e0 : A.eval (.tmp 39) = .pointer (some ⟨b, 0, none⟩) := by rw [hev]; exact hG.pre 0 (dm 0 hdep rfl)
      rw [if_pos (by rfl)]; unfold Oper.wp execOp; generalize A.eval = ev at e0 ⊢; go_simp; exact hK _ _ (hG.first (by first | rfl | (simp; done) | (simp; omega) | (simp; assumption)))
    · intro dn us w6 A hev hy hG hdn hdep K hK
      have e0 : A.eval (.tmp 40) = .pointer (some ⟨b, 0, none⟩) := by rw [hev]; exact hG.pre 1 (dm 1 hdep rfl)
      rw [if_pos (by rfl)]; unfold Oper.wp execOp; generalize A.eval = ev at e0 ⊢; go_simp; exact hK _ _ (hG.first (by first | rfl | (simp; done) | (simp; omega) | (simp; assumption)))
    · intro dn us w6 A hev hy hG hdn hdep K hK
      have e0 : A.eval (.tmp 41) = .pointer (some ⟨b, 5, none⟩) := by rw [hev]; exact hG.pre 2 (dm 2 hdep rfl)
      have cc0 : w6.cell? ⟨b, 5, none⟩ = some (.int .i64 1) := by rw [hG.below.cell (World.block_lt_of_cell? _ _ y5)]; exact y5
      rw [if_pos (by rfl)]; unfold Oper.wp execOp; generalize A.eval = ev at e0 ⊢; go_simp; exact hK _ _ (hG.first (by first | rfl | (simp; done) | (simp; omega) | (simp; assumption)))
    · intro dn us w6 A hev hy hG hdn hdep K hK
      have e0 : A.eval (.tmp 1) = .pointer (some ⟨k.bw, 0, none⟩) := by rw [hev]; rfl
      rw [if_pos (by rfl)]; unfold Oper.wp execOp; generalize A.eval = ev at e0 ⊢; go_simp; exact hK _ _ (hG.first (by first | rfl | (simp; done) | (simp; omega) | (simp; assumption)))
    · intro dn us w6 A hev hy hG hdn hdep K hK
      have e0 : A.eval (.tmp 43) = .pointer (some ⟨k.bw, 0, none⟩) := by rw [hev]; exact hG.pre 4 (dm 4 hdep rfl)
      rw [if_pos (by rfl)]; unfold Oper.wp execOp; generalize A.eval = ev at e0 ⊢; go_simp; exact hK _ _ (hG.first (by first | rfl | (simp; done) | (simp; omega) | (simp; assumption)))
    · intro dn us w6 A hev hy hG hdn hdep K hK
      have e0 : A.eval (.tmp 44) = .pointer (some ⟨k.bw, 0, none⟩) := by rw [hev]; exact hG.pre 5 (dm 5 hdep rfl)
      rw [if_pos (by rfl)]; unfold Oper.wp execOp; generalize A.eval = ev at e0 ⊢; go_simp; exact hK _ _ (hG.first (by first | rfl | (simp; done) | (simp; omega) | (simp; assumption)))
    · intro dn us w6 A hev hy hG hdn hdep K hK
      have e0 : A.eval (.tmp 45) = .pointer (some ⟨k.bw, 0, none⟩) := by rw [hev]; exact hG.pre 6 (dm 6 hdep rfl)
      rw [if_pos (by rfl)]; unfold Oper.wp execOp; generalize A.eval = ev at e0 ⊢; go_simp; exact hK _ _ (hG.first (by first | rfl | (simp; done) | (simp; omega) | (simp; assumption)))
    · intro dn us w6 A hev hy hG hdn hdep K hK
      have e0 : A.eval (.tmp 46) = .pointer (some ⟨k.bw, 1, none⟩) := by rw [hev]; exact hG.pre 7 (dm 7 hdep rfl)
      have cc0 : w6.cell? ⟨k.bw, 1, none⟩ = some (.int .i64 1) := by rw [hG.below.cell (World.block_lt_of_cell? _ _ g1q)]; exact g1q
      rw [if_pos (by rfl)]; unfold Oper.wp execOp; generalize A.eval = ev at e0 ⊢; go_simp; exact hK _ _ (hG.first (by first | rfl | (simp; done) | (simp; omega) | (simp; assumption)))
    · intro dn us w6 A hev hy hG hdn hdep K hK
      have e0 : A.eval (.tmp 42) = .int .i64 1 := by rw [hev]; exact hG.pre 3 (dm 3 hdep rfl)
      have e1 : A.eval (.tmp 47) = .int .i64 1 := by rw [hev]; exact hG.pre 8 (dm 8 hdep rfl)
      rw [if_pos (by rfl)]; unfold Oper.wp execOp; generalize A.eval = ev at e0 e1 ⊢; go_simp; exact hK _ _ (hG.first (by first | rfl | (simp; done) | (simp; omega) | (simp; assumption)))
    intro dn us w5 hG hall
    have u9 : us 9 = .bool true := hG.pre 9 (hall 9 (by decide))
    have D5 := hG.below
    simp only [fillA, fillT, Act.put, Nat.reduceAdd, List.setIfInBounds_toArray, List.set_cons_zero, List.set_cons_succ, u9]
    clear hG hall u9
    have A5 := A4.below' D5
    go_upto_region 7 with (refine wpl_st rfl 4 _ _ rfl (Scn.cells ⟨c, 0, 1, n, next, [l], true, er, rd, prs⟩ lv pv) rfl _ rfl A5 (by kernel_rfl) rfl rfl rfl ?_; intro W6 A6 O6)
    have OO : Only (fun j => j = b) w W6 := ((((O1.thenBelow D2).trans O3).trans O4).thenBelow D5).trans O6
    have HI6 := Lib.hid (HI.out.only OO (fun b' hb' e => HNB.out (by have e' : b' = b := e; rw [← e']; exact hb')))
    have LW6 := Lib.hid OO.size
    have M1 := Lib.hid (show ∀ w w' v, PairsIn w N v (mrg [l] c.limit) → Below w.heap.size w w' → PairsIn w' N v (mrg [l] c.limit) from fun _ _ _ h hb => h.below hb)
    have M2 := Lib.hid (show ∀ (w w' : World) (v : Value), (∃ q, v = .agg #[.int .i64 0, .bool true, .int .u64 0, q] ∧ PairsIn w N q (mrg [l] c.limit)) → Below w.heap.size w w' → (∃ q, v = .agg #[.int .i64 0, .bool true, .int .u64 0, q] ∧ PairsIn w' N q (mrg [l] c.limit)) from fun _ _ _ ⟨q, a, h⟩ hb => ⟨q, a, h.below hb⟩)
    refine wp_region_C (l := [_, _, _, _, _, _, _, _, _, _, _, _, _, _, _]) (LG 14 (FL (fun j v => match j with | 0 => v = .pointer (some ⟨b, 0, none⟩) | 1 => v = .pointer (some ⟨b, 0, none⟩) | 2 => v = .pointer (some ⟨b, 0, none⟩) | 3 => v = .pointer (some ⟨b, 8, none⟩) | 4 => v = lv | 5 => v = .pointer (some ⟨b, 0, none⟩) | 6 => v = .pointer (some ⟨b, 0, none⟩) | 7 => v = .pointer (some ⟨b, 0, none⟩) | 8 => v = .pointer (some ⟨b, 3, none⟩) | 9 => v = .int .i64 c.limit | 12 => v = .pointer (some ⟨b, 0, none⟩) | 13 => v = .pointer (some ⟨b, 10, none⟩) | _ => True) 10 11 (fun w v => PairsIn w N v (mrg [l] c.limit)) (fun w v => ∃ q, v = .agg #[.int .i64 0, .bool true, .int .u64 0, q] ∧ PairsIn w N q (mrg [l] c.limit))) W6 (fun _ w => ∃ q, At w b 53 (Scn.cells ⟨c, 0, 1, n, next, [l], true, 0, true, mrg [l] c.limit⟩ lv q) ∧ PairsIn w N q (mrg [l] c.limit) ∧ Only (fun j => j = b) W6 w)) (by kernel_rfl) (by kernel_rfl) (fun us => LG.start us) ⟨?_, ?_, ?_, ?_, ?_, ?_, ?_, ?_, ?_, ?_, ?_, ?_, ?_, ?_, ?_, trivial⟩ ?_
    · intro dn us w6 A hev hy hG hcl hdn hdep K hK
      have e0 : A.eval (.tmp 0) = .pointer (some ⟨b, 0, none⟩) := by rw [hev]; rfl
      rw [if_pos (by rfl)]; unfold Oper.wp execOp; generalize A.eval = ev at e0 ⊢; go_simp; exact hK _ _ (hG.plain hdn (by decide) (by decide) (by decide) (by first | rfl | (simp; done) | (simp; omega) | (simp; assumption)))
    · intro dn us w6 A hev hy hG hcl hdn hdep K hK
      have e0 : A.eval (.tmp 0) = .pointer (some ⟨b, 0, none⟩) := by rw [hev]; rfl
      rw [if_pos (by rfl)]; unfold Oper.wp execOp; generalize A.eval = ev at e0 ⊢; go_simp; exact hK _ _ (hG.plain hdn (by decide) (by decide) (by decide) (by first | rfl | (simp; done) | (simp; omega) | (simp; assumption)))
    · intro dn us w6 A hev hy hG hcl hdn hdep K hK
      have d1 : dn 1 = true := allD_mem hdep (by decide)
      have e0 : A.eval (.tmp 53) = .pointer (some ⟨b, 0, none⟩) := by rw [hev]; exact hG.val hdn (by decide) d1
      rw [if_pos (by rfl)]; unfold Oper.wp execOp; generalize A.eval = ev at e0 ⊢; go_simp; exact hK _ _ (hG.plain hdn (by decide) (by decide) (by decide) (by first | rfl | (simp; done) | (simp; omega) | (simp; assumption)))
    · intro dn us w6 A hev hy hG hcl hdn hdep K hK
      have d2 : dn 2 = true := allD_mem hdep (by decide)
      have e0 : A.eval (.tmp 54) = .pointer (some ⟨b, 0, none⟩) := by rw [hev]; exact hG.val hdn (by decide) d2
      rw [if_pos (by rfl)]; unfold Oper.wp execOp; generalize A.eval = ev at e0 ⊢; go_simp; exact hK _ _ (hG.plain hdn (by decide) (by decide) (by decide) (by first | rfl | (simp; done) | (simp; omega) | (simp; assumption)))
    · intro dn us w6 A hev hy hG hcl hdn hdep K hK
      have d3 : dn 3 = true := allD_mem hdep (by decide)
      have e0 : A.eval (.tmp 55) = .pointer (some ⟨b, 8, none⟩) := by rw [hev]; exact hG.val hdn (by decide) d3
      have hb6 := hG.below (hG.not hdn (by decide))
      have cc0 : w6.cell? ⟨b, 8, none⟩ = some lv := by rw [hb6.cell A6.lt]; exact A6.cell 8
      rw [if_pos (by rfl)]; unfold Oper.wp execOp; generalize A.eval = ev at e0 ⊢; go_simp; exact hK _ _ (hG.plain hdn (by decide) (by decide) (by decide) (by first | rfl | (simp; done) | (simp; omega) | (simp; assumption)))
    · intro dn us w6 A hev hy hG hcl hdn hdep K hK
      have e0 : A.eval (.tmp 0) = .pointer (some ⟨b, 0, none⟩) := by rw [hev]; rfl
      rw [if_pos (by rfl)]; unfold Oper.wp execOp; generalize A.eval = ev at e0 ⊢; go_simp; exact hK _ _ (hG.plain hdn (by decide) (by decide) (by decide) (by first | rfl | (simp; done) | (simp; omega) | (simp; assumption)))
    · intro dn us w6 A hev hy hG hcl hdn hdep K hK
      have d5 : dn 5 = true := allD_mem hdep (by decide)
      have e0 : A.eval (.tmp 57) = .pointer (some ⟨b, 0, none⟩) := by rw [hev]; exact hG.val hdn (by decide) d5
      rw [if_pos (by rfl)]; unfold Oper.wp execOp; generalize A.eval = ev at e0 ⊢; go_simp; exact hK _ _ (hG.plain hdn (by decide) (by decide) (by decide) (by first | rfl | (simp; done) | (simp; omega) | (simp; assumption)))
    · intro dn us w6 A hev hy hG hcl hdn hdep K hK
      have d6 : dn 6 = true := allD_mem hdep (by decide)
      have e0 : A.eval (.tmp 58) = .pointer (some ⟨b, 0, none⟩) := by rw [hev]; exact hG.val hdn (by decide) d6
      rw [if_pos (by rfl)]; unfold Oper.wp execOp; generalize A.eval = ev at e0 ⊢; go_simp; exact hK _ _ (hG.plain hdn (by decide) (by decide) (by decide) (by first | rfl | (simp; done) | (simp; omega) | (simp; assumption)))
    · intro dn us w6 A hev hy hG hcl hdn hdep K hK
      have d7 : dn 7 = true := allD_mem hdep (by decide)
      have e0 : A.eval (.tmp 59) = .pointer (some ⟨b, 0, none⟩) := by rw [hev]; exact hG.val hdn (by decide) d7
      rw [if_pos (by rfl)]; unfold Oper.wp execOp; generalize A.eval = ev at e0 ⊢; go_simp; exact hK _ _ (hG.plain hdn (by decide) (by decide) (by decide) (by first | rfl | (simp; done) | (simp; omega) | (simp; assumption)))
    · intro dn us w6 A hev hy hG hcl hdn hdep K hK
      have d8 : dn 8 = true := allD_mem hdep (by decide)
      have e0 : A.eval (.tmp 60) = .pointer (some ⟨b, 3, none⟩) := by rw [hev]; exact hG.val hdn (by decide) d8
      have hb6 := hG.below (hG.not hdn (by decide))
      have cc0 : w6.cell? ⟨b, 3, none⟩ = some (.int .i64 c.limit) := by rw [hb6.cell A6.lt]; exact A6.cell 3
      rw [if_pos (by rfl)]; unfold Oper.wp execOp; generalize A.eval = ev at e0 ⊢; go_simp; exact hK _ _ (hG.plain hdn (by decide) (by decide) (by decide) (by first | rfl | (simp; done) | (simp; omega) | (simp; assumption)))
    · intro dn us w6 A hev hy hG hcl hdn hdep K hK
      have d4 : dn 4 = true := allD_mem hdep (by decide)
      have d9 : dn 9 = true := allD_mem hdep (by decide)
      have e0 : A.eval (.tmp 56) = lv := by rw [hev]; exact hG.val hdn (by decide) d4
      have e1 : A.eval (.tmp 61) = .int .i64 c.limit := by rw [hev]; exact hG.val hdn (by decide) d9
      have ef : A.eval (.func 141) = .func (.func 141) #[] #[] := by rw [hev]; rfl
      have hb6 := hG.below (hG.not hdn (by decide))
      rw [if_pos (by rfl)]; unfold Oper.wp execOp; generalize A.eval = ev at e0 e1 ef ⊢; go_simp; refine (mpairs_any c.limit w6 (HI6.out.below hb6) hl (fun b' hb' => HN.out b' (by have := hb6.size; have := LW6.out; omega))).mono ?_
      rintro e wq ⟨v, rfl, hP, hb⟩
      exact hK _ _ (hG.sp1 hdn (by decide) (by decide) M1.out M2.out trivial hP hb)
    · intro dn us w6 A hev hy hG hcl hdn hdep K hK
      have d10 : dn 10 = true := allD_mem hdep (by decide)
      have hP := (hG.pre (hG.not hdn (by decide)) 10 d10).2.1 rfl
      have e0 : A.eval (.tmp 62) = us 10 := by rw [hev]; rfl
      have e1 : A.eval (.const (.bool true)) = .bool true := by rw [hev]; rfl
      obtain ⟨ao, cap, hq⟩ := hP.form
      rw [hq] at e0 hP
      rw [if_pos (by rfl)]; unfold Oper.wp execOp; generalize A.eval = ev at e0 e1 ⊢; go_simp; exact hK _ _ (hG.sp2 hdn (by decide) (by decide) M1.out M2.out trivial ⟨_, rfl, hP⟩ (Below.refl _ _))
    · intro dn us w6 A hev hy hG hcl hdn hdep K hK
      have d0 : dn 0 = true := allD_mem hdep (by decide)
      have e0 : A.eval (.tmp 52) = .pointer (some ⟨b, 0, none⟩) := by rw [hev]; exact hG.val hdn (by decide) d0
      rw [if_pos (by rfl)]; unfold Oper.wp execOp; generalize A.eval = ev at e0 ⊢; go_simp; exact hK _ _ (hG.plain hdn (by decide) (by decide) (by decide) (by first | rfl | (simp; done) | (simp; omega) | (simp; assumption)))
    · intro dn us w6 A hev hy hG hcl hdn hdep K hK
      have d12 : dn 12 = true := allD_mem hdep (by decide)
      have e0 : A.eval (.tmp 64) = .pointer (some ⟨b, 0, none⟩) := by rw [hev]; exact hG.val hdn (by decide) d12
      rw [if_pos (by rfl)]; unfold Oper.wp execOp; generalize A.eval = ev at e0 ⊢; go_simp; exact hK _ _ (hG.plain hdn (by decide) (by decide) (by decide) (by first | rfl | (simp; done) | (simp; omega) | (simp; assumption)))
    · intro dn us w6 A hev hy hG hcl hdn hdep K hK
      have d11 : dn 11 = true := allD_mem hdep (by decide)
      have d13 : dn 13 = true := allD_mem hdep (by decide)
      have hall : ∀ j, j < 14 → dn j = true := by
        have d12 : dn 12 = true := allD_mem (hcl 13 d13) (by decide)
        have d0 : dn 0 = true := allD_mem (hcl 12 d12) (by decide)
        have d10 : dn 10 = true := allD_mem (hcl 11 d11) (by decide)
        have d4 : dn 4 = true := allD_mem (hcl 10 d10) (by decide)
        have d9 : dn 9 = true := allD_mem (hcl 10 d10) (by decide)
        have d3 : dn 3 = true := allD_mem (hcl 4 d4) (by decide)
        have d2 : dn 2 = true := allD_mem (hcl 3 d3) (by decide)
        have d1 : dn 1 = true := allD_mem (hcl 2 d2) (by decide)
        have d8 : dn 8 = true := allD_mem (hcl 9 d9) (by decide)
        have d7 : dn 7 = true := allD_mem (hcl 8 d8) (by decide)
        have d6 : dn 6 = true := allD_mem (hcl 7 d7) (by decide)
        have d5 : dn 5 = true := allD_mem (hcl 6 d6) (by decide)
        intro j hj
        match j, hj with
        | 0, _ => exact d0
        | 1, _ => exact d1
        | 2, _ => exact d2
        | 3, _ => exact d3
        | 4, _ => exact d4
        | 5, _ => exact d5
        | 6, _ => exact d6
        | 7, _ => exact d7
        | 8, _ => exact d8
        | 9, _ => exact d9
        | 10, _ => exact d10
        | 11, _ => exact d11
        | 12, _ => exact d12
        | 13, _ => exact d13
      obtain ⟨q, hq, hP⟩ := (hG.pre hdn 11 d11).2.2 rfl
      obtain ⟨ao, cap, rfl⟩ := hP.form
      have e0 : A.eval (.tmp 65) = .pointer (some ⟨b, 10, none⟩) := by rw [hev]; exact hG.valS hdn d13
      have e1 : A.eval (.tmp 63) = .agg #[.int .i64 0, .bool true, .int .u64 0, .slice ao (mrg [l] c.limit).length cap] := by rw [hev]; exact hq
      have A66 := A6.below' (hG.below hdn)
      refine step_list (wpl_st rfl 51 (.tmp 65) (.tmp 63) rfl (Scn.cells ⟨c, 0, 1, n, next, [l], true, 0, true, mrg [l] c.limit⟩ lv (.slice ao (mrg [l] c.limit).length cap)) e0 _ e1 A66 (by kernel_rfl) rfl rfl rfl fun w7 A7 O7 => ⟨rfl, ?_⟩)
      exact hK _ _ (LG.stored hall ⟨_, A7, hP.only O7 (fun b' hb' e => HNB.out (by have e' : b' = b := e; rw [← e']; exact hb')), (Only.ofBelow _ (hG.below hdn)).trans O7⟩)
    intro dn us w7 hG hall
    obtain ⟨q, A7, hP, O7⟩ := hG.st (hall 14 (by decide))
    simp only [fillA, fillT, Act.put, Nat.reduceAdd, List.setIfInBounds_toArray, List.set_cons_zero, List.set_cons_succ]
    go_end0
    exact ⟨rfl, q, A7, hP, OO.trans O7⟩
  · have h0' : (n != 0) = true := by simpa using h0
    have hgt : c.val < s.key n := by
      by_cases q : c.val < s.key n
      · exact q
      · exact (hk ⟨h0, by omega⟩).elim
    have HGT := Lib.hid hgt
    clear hk h0 hgt
    go_enter Tryz.func69, Tryz.ntmps69
    go_upto_region 1 with (refine wpl_st rfl 3 _ _ rfl (Scn.cells ⟨c, phase, 0, n, next, [l], dn0, er, rd, prs⟩ lv pv) rfl _ rfl hx (by kernel_rfl) rfl rfl rfl ?_; intro w1 A1 O1)
    have lw : k.bw < w1.heap.size := Nat.lt_of_lt_of_le gl O1.size
    have HZ := Lib.hid h0'
    have H1 := Lib.hid (HH.out.but HB.out O1)
    have g6p := cell_only g6 O1 nb'
    have x2 : w1.cell? ⟨b, 2, none⟩ = some (.int .u64 c.val) := A1.cell 2
    clear h0'
    refine wp_region_J (l := [_, _, _, _, _, _, _, _, _, _, _, _, _, _, _, _]) (QG (fun j v => match j with | 0 => v = .int .i64 n | 1 => v = .bool true | 2 => v = .bool true | 3 => v = .pointer (some ⟨k.bw, 0, none⟩) | 4 => v = .pointer (some ⟨k.bw, 0, none⟩) | 5 => v = .pointer (some ⟨k.bw, 6, none⟩) | 6 => v = .pointer (some ⟨k.bb, 0, none⟩) | 7 => v = .int .i64 n | 8 => v = .int .u64 (s.key n) | 9 => v = .pointer (some ⟨b, 0, none⟩) | 10 => v = .pointer (some ⟨b, 0, none⟩) | 11 => v = .pointer (some ⟨b, 0, none⟩) | 12 => v = .pointer (some ⟨b, 2, none⟩) | 13 => v = .int .u64 c.val | 14 => v = .bool false | 15 => v = .bool false | _ => True) w1) (by kernel_rfl) (by kernel_rfl) (fun us => QG.start us) ⟨?_, ?_, ?_, ?_, ?_, ?_, ?_, ?_, ?_, ?_, ?_, ?_, ?_, ?_, ?_, ?_, trivial⟩ ?_
    · intro dn us w6 A hev hy hG hdn hdep K hK
      have e0 : A.eval (.tmp 2) = .int .i64 n := by rw [hev]; rfl
      rw [if_pos (by rfl)]; unfold Oper.wp execOp; generalize A.eval = ev at e0 ⊢; go_simp; exact hK _ _ (hG.first (by first | rfl | (simp; done) | (simp; omega) | (simp; assumption)))
    · intro dn us w6 A hev hy hG hdn hdep K hK
      have e0 : A.eval (.tmp 10) = .int .i64 n := by rw [hev]; exact hG.pre 0 (dm 0 hdep rfl)
      have e1 : A.eval (.const (.int .i64 0)) = .int .i64 0 := by rw [hev]; rfl
      have hle := HZ.out
      rw [if_pos (by rfl)]; unfold Oper.wp execOp; generalize A.eval = ev at e0 e1 ⊢; go_simp; exact hK _ _ (hG.first (by first | rfl | (simp; done) | (simp; omega) | (simp; assumption)))
    · intro dn us w6 A hev hy hG hdn hdep K hK
      have e0 : A.eval (.tmp 11) = .bool true := by rw [hev]; exact hG.pre 1 (dm 1 hdep rfl)
      rw [if_pos (by rfl)]; unfold Oper.wp execOp; generalize A.eval = ev at e0 ⊢; go_simp; exact hK _ _ (hG.first (by first | rfl | (simp; done) | (simp; omega) | (simp; assumption)))
    · intro dn us w6 A hev hy hG hdn hdep K hK
      have e0 : A.eval (.tmp 1) = .pointer (some ⟨k.bw, 0, none⟩) := by rw [hev]; rfl
      have hg : us 2 = .bool true := hG.pre 2 (dm 2 hdep rfl)
      rw [if_pos (by rw [hy]; exact yb hg)]; unfold Oper.wp execOp; generalize A.eval = ev at e0 ⊢; go_simp; exact hK _ _ (hG.first (by first | rfl | (simp; done) | (simp; omega) | (simp; assumption)))
    · intro dn us w6 A hev hy hG hdn hdep K hK
      have e0 : A.eval (.tmp 13) = .pointer (some ⟨k.bw, 0, none⟩) := by rw [hev]; exact hG.pre 3 (dm 3 hdep rfl)
      have hg : us 2 = .bool true := hG.pre 2 (dm 2 hdep rfl)
      rw [if_pos (by rw [hy]; exact yb hg)]; unfold Oper.wp execOp; generalize A.eval = ev at e0 ⊢; go_simp; exact hK _ _ (hG.first (by first | rfl | (simp; done) | (simp; omega) | (simp; assumption)))
    · intro dn us w6 A hev hy hG hdn hdep K hK
      have e0 : A.eval (.tmp 14) = .pointer (some ⟨k.bw, 0, none⟩) := by rw [hev]; exact hG.pre 4 (dm 4 hdep rfl)
      have hg : us 2 = .bool true := hG.pre 2 (dm 2 hdep rfl)
      rw [if_pos (by rw [hy]; exact yb hg)]; unfold Oper.wp execOp; generalize A.eval = ev at e0 ⊢; go_simp; exact hK _ _ (hG.first (by first | rfl | (simp; done) | (simp; omega) | (simp; assumption)))
    · intro dn us w6 A hev hy hG hdn hdep K hK
      have e0 : A.eval (.tmp 15) = .pointer (some ⟨k.bw, 6, none⟩) := by rw [hev]; exact hG.pre 5 (dm 5 hdep rfl)
      have cc0 : w6.cell? ⟨k.bw, 6, none⟩ = some (.pointer (some ⟨k.bb, 0, none⟩)) := by rw [hG.below.cell (World.block_lt_of_cell? _ _ g6p)]; exact g6p
      have hg : us 2 = .bool true := hG.pre 2 (dm 2 hdep rfl)
      rw [if_pos (by rw [hy]; exact yb hg)]; unfold Oper.wp execOp; generalize A.eval = ev at e0 ⊢; go_simp; exact hK _ _ (hG.first (by first | rfl | (simp; done) | (simp; omega) | (simp; assumption)))
    · intro dn us w6 A hev hy hG hdn hdep K hK
      have e0 : A.eval (.tmp 2) = .int .i64 n := by rw [hev]; rfl
      have hg : us 2 = .bool true := hG.pre 2 (dm 2 hdep rfl)
      rw [if_pos (by rw [hy]; exact yb hg)]; unfold Oper.wp execOp; generalize A.eval = ev at e0 ⊢; go_simp; exact hK _ _ (hG.first (by first | rfl | (simp; done) | (simp; omega) | (simp; assumption)))
    · intro dn us w6 A hev hy hG hdn hdep K hK
      have e0 : A.eval (.tmp 16) = .pointer (some ⟨k.bb, 0, none⟩) := by rw [hev]; exact hG.pre 6 (dm 6 hdep rfl)
      have e1 : A.eval (.tmp 17) = .int .i64 n := by rw [hev]; exact hG.pre 7 (dm 7 hdep rfl)
      have ef : A.eval (.func 36) = .func (.func 36) #[] #[] := by rw [hev]; rfl
      have hg : us 2 = .bool true := hG.pre 2 (dm 2 hdep rfl)
      rw [if_pos (by rw [hy]; exact yb hg)]; unfold Oper.wp execOp; generalize A.eval = ev at e0 e1 ef ⊢; go_simp; refine (key_any n _ (H1.out.below hG.below)).mono ?_
      rintro e wq ⟨rfl, hb⟩
      exact hK _ _ (hG.called rfl hb)
    · intro dn us w6 A hev hy hG hdn hdep K hK
      have e0 : A.eval (.tmp 0) = .pointer (some ⟨b, 0, none⟩) := by rw [hev]; rfl
      have hg : us 2 = .bool true := hG.pre 2 (dm 2 hdep rfl)
      rw [if_pos (by rw [hy]; exact yb hg)]; unfold Oper.wp execOp; generalize A.eval = ev at e0 ⊢; go_simp; exact hK _ _ (hG.first (by first | rfl | (simp; done) | (simp; omega) | (simp; assumption)))
    · intro dn us w6 A hev hy hG hdn hdep K hK
      have e0 : A.eval (.tmp 19) = .pointer (some ⟨b, 0, none⟩) := by rw [hev]; exact hG.pre 9 (dm 9 hdep rfl)
      have hg : us 2 = .bool true := hG.pre 2 (dm 2 hdep rfl)
      rw [if_pos (by rw [hy]; exact yb hg)]; unfold Oper.wp execOp; generalize A.eval = ev at e0 ⊢; go_simp; exact hK _ _ (hG.first (by first | rfl | (simp; done) | (simp; omega) | (simp; assumption)))
    · intro dn us w6 A hev hy hG hdn hdep K hK
      have e0 : A.eval (.tmp 20) = .pointer (some ⟨b, 0, none⟩) := by rw [hev]; exact hG.pre 10 (dm 10 hdep rfl)
      have hg : us 2 = .bool true := hG.pre 2 (dm 2 hdep rfl)
      rw [if_pos (by rw [hy]; exact yb hg)]; unfold Oper.wp execOp; generalize A.eval = ev at e0 ⊢; go_simp; exact hK _ _ (hG.first (by first | rfl | (simp; done) | (simp; omega) | (simp; assumption)))
    · intro dn us w6 A hev hy hG hdn hdep K hK
      have e0 : A.eval (.tmp 21) = .pointer (some ⟨b, 0, none⟩) := by rw [hev]; exact hG.pre 11 (dm 11 hdep rfl)
      have hg : us 2 = .bool true := hG.pre 2 (dm 2 hdep rfl)
      rw [if_pos (by rw [hy]; exact yb hg)]; unfold Oper.wp execOp; generalize A.eval = ev at e0 ⊢; go_simp; exact hK _ _ (hG.first (by first | rfl | (simp; done) | (simp; omega) | (simp; assumption)))
    · intro dn us w6 A hev hy hG hdn hdep K hK
      have e0 : A.eval (.tmp 22) = .pointer (some ⟨b, 2, none⟩) := by rw [hev]; exact hG.pre 12 (dm 12 hdep rfl)
      have cc0 : w6.cell? ⟨b, 2, none⟩ = some (.int .u64 c.val) := by rw [hG.below.cell (World.block_lt_of_cell? _ _ x2)]; exact x2
      have hg : us 2 = .bool true := hG.pre 2 (dm 2 hdep rfl)
      rw [if_pos (by rw [hy]; exact yb hg)]; unfold Oper.wp execOp; generalize A.eval = ev at e0 ⊢; go_simp; exact hK _ _ (hG.first (by first | rfl | (simp; done) | (simp; omega) | (simp; assumption)))
    · intro dn us w6 A hev hy hG hdn hdep K hK
      have e0 : A.eval (.tmp 18) = .int .u64 (s.key n) := by rw [hev]; exact hG.pre 8 (dm 8 hdep rfl)
      have e1 : A.eval (.tmp 23) = .int .u64 c.val := by rw [hev]; exact hG.pre 13 (dm 13 hdep rfl)
      have hle := HGT.out
      have hg : us 2 = .bool true := hG.pre 2 (dm 2 hdep rfl)
      rw [if_pos (by rw [hy]; exact yb hg)]; unfold Oper.wp execOp; generalize A.eval = ev at e0 e1 ⊢; go_simp; exact hK _ _ (hG.first (by first | rfl | (simp; done) | (simp; omega) | (simp; assumption)))
    · intro dn us w6 A hev hy hG hdn hdep K hK
      have e0 : A.eval (.tmp 12) = .bool true := by rw [hev]; exact hG.pre 2 (dm 2 hdep rfl)
      have e1 : A.eval (.tmp 24) = .bool false := by rw [hev]; exact hG.pre 14 (dm 14 hdep rfl)
      have e2 : A.eval (.const (.bool false)) = .bool false := by rw [hev]; rfl
      rw [if_pos (by rfl)]; unfold Oper.wp execOp; generalize A.eval = ev at e0 e1 e2 ⊢; go_simp; exact hK _ _ (hG.first (by first | rfl | (simp; done) | (simp; omega) | (simp; assumption)))
    intro dn us w2 hG hall
    have u15 : us 15 = .bool false := hG.pre 15 (hall 15 (by decide))
    have D2 := hG.below
    simp only [fillA, fillT, Act.put, Nat.reduceAdd, List.setIfInBounds_toArray, List.set_cons_zero, List.set_cons_succ, u15]
    clear hG hall u15
    have A2 := A1.below' D2
    have g1w := cell_only g1 O1 nb'
    clear g6p x2
    have g1p : w2.cell? ⟨k.bw, 1, none⟩ = some (.int .i64 1) := by rw [D2.cell lw]; exact g1w
    have z5 : w2.cell? ⟨b, 5, none⟩ = some (.int .i64 0) := A2.cell 5
    have lw2 : k.bw < w2.heap.size := Nat.lt_of_lt_of_le lw D2.size
    clear g1w g1
    go_upto_region 5 with (first
      | (refine wpl_st rfl 3 _ _ rfl (Scn.cells ⟨c, 0, 1, n, next, [l], dn0, er, rd, prs⟩ lv pv) rfl _ rfl A3 (by kernel_rfl) rfl rfl rfl ?_; intro w4 A4 O4)
      | (refine wpl_st rfl 3 _ _ rfl (Scn.cells ⟨c, phase, 1, n, next, [l], dn0, er, rd, prs⟩ lv pv) rfl _ rfl A2 (by kernel_rfl) rfl rfl rfl ?_; intro w3 A3 O3))
    have g1q := cell_only (cell_only g1p O3 nb') O4 nb'
    have y5 : w4.cell? ⟨b, 5, none⟩ = some (.int .i64 1) := A4.cell 5
    clear g1p z5
    refine wp_region_J (l := [_, _, _, _, _, _, _, _, _, _]) (QG (fun j v => match j with | 0 => v = .pointer (some ⟨b, 0, none⟩) | 1 => v = .pointer (some ⟨b, 0, none⟩) | 2 => v = .pointer (some ⟨b, 5, none⟩) | 3 => v = .int .i64 1 | 4 => v = .pointer (some ⟨k.bw, 0, none⟩) | 5 => v = .pointer (some ⟨k.bw, 0, none⟩) | 6 => v = .pointer (some ⟨k.bw, 0, none⟩) | 7 => v = .pointer (some ⟨k.bw, 1, none⟩) | 8 => v = .int .i64 1 | 9 => v = .bool true | _ => True) w4) (by kernel_rfl) (by kernel_rfl) (fun us => QG.start us) ⟨?_, ?_, ?_, ?_, ?_, ?_, ?_, ?_, ?_, ?_, trivial⟩ ?_
    · intro dn us w6 A hev hy hG hdn hdep K hK
      have e0 : A.eval (.tmp 0) = .pointer (some ⟨b, 0, none⟩) := by rw [hev]; rfl
      rw [if_pos (by rfl)]; unfold Oper.wp execOp; generalize A.eval = ev at e0 ⊢; go_simp; exact hK _ _ (hG.first (by first | rfl | (simp; done) | (simp; omega) | (simp; assumption)))
    · intro dn us w6 A hev hy hG hdn hdep K hK
      have e0 : A.eval (.tmp 39) = .pointer (some ⟨b, 0, none⟩) := by rw [hev]; exact hG.pre 0 (dm 0 hdep rfl)
      rw [if_pos (by rfl)]; unfold Oper.wp execOp; generalize A.eval = ev at e0 ⊢; go_simp; exact hK _ _ (hG.first (by first | rfl | (simp; done) | (simp; omega) | (simp; assumption)))
    · intro dn us w6 A hev hy hG hdn hdep K hK
      have e0 : A.eval (.tmp 40) = .pointer (some ⟨b, 0, none⟩) := by rw [hev]; exact hG.pre 1 (dm 1 hdep rfl)
      rw [if_pos (by rfl)]; unfold Oper.wp execOp; generalize A.eval = ev at e0 ⊢; go_simp; exact hK _ _ (hG.first (by first | rfl | (simp; done) | (simp; omega) | (simp; assumption)))
    · intro dn us w6 A hev hy hG hdn hdep K hK
      have e0 : A.eval (.tmp 41) = .pointer (some ⟨b, 5, none⟩) := by rw [hev]; exact hG.pre 2 (dm 2 hdep rfl)
      have cc0 : w6.cell? ⟨b, 5, none⟩ = some (.int .i64 1) := by rw [hG.below.cell (World.block_lt_of_cell? _ _ y5)]; exact y5
      rw [if_pos (by rfl)]; unfold Oper.wp execOp; generalize A.eval = ev at e0 ⊢; go_simp; exact hK _ _ (hG.first (by first | rfl | (simp; done) | (simp; omega) | (simp; assumption)))
    · intro dn us w6 A hev hy hG hdn hdep K hK
      have e0 : A.eval (.tmp 1) = .pointer (some ⟨k.bw, 0, none⟩) := by rw [hev]; rfl
      rw [if_pos (by rfl)]; unfold Oper.wp execOp; generalize A.eval = ev at e0 ⊢; go_simp; exact hK _ _ (hG.first (by first | rfl | (simp; done) | (simp; omega) | (simp; assumption)))
    · intro dn us w6 A hev hy hG hdn hdep K hK
      have e0 : A.eval (.tmp 43) = .pointer (some ⟨k.bw, 0, none⟩) := by rw [hev]; exact hG.pre 4 (dm 4 hdep rfl)
      rw [if_pos (by rfl)]; unfold Oper.wp execOp; generalize A.eval = ev at e0 ⊢; go_simp; exact hK _ _ (hG.first (by first | rfl | (simp; done) | (simp; omega) | (simp; assumption)))
    · intro dn us w6 A hev hy hG hdn hdep K hK
      have e0 : A.eval (.tmp 44) = .pointer (some ⟨k.bw, 0, none⟩) := by rw [hev]; exact hG.pre 5 (dm 5 hdep rfl)
      rw [if_pos (by rfl)]; unfold Oper.wp execOp; generalize A.eval = ev at e0 ⊢; go_simp; exact hK _ _ (hG.first (by first | rfl | (simp; done) | (simp; omega) | (simp; assumption)))
    · intro dn us w6 A hev hy hG hdn hdep K hK
      have e0 : A.eval (.tmp 45) = .pointer (some ⟨k.bw, 0, none⟩) := by rw [hev]; exact hG.pre 6 (dm 6 hdep rfl)
      rw [if_pos (by rfl)]; unfold Oper.wp execOp; generalize A.eval = ev at e0 ⊢; go_simp; exact hK _ _ (hG.first (by first | rfl | (simp; done) | (simp; omega) | (simp; assumption)))
    · intro dn us w6 A hev hy hG hdn hdep K hK
      have e0 : A.eval (.tmp 46) = .pointer (some ⟨k.bw, 1, none⟩) := by rw [hev]; exact hG.pre 7 (dm 7 hdep rfl)
      have cc0 : w6.cell? ⟨k.bw, 1, none⟩ = some (.int .i64 1) := by rw [hG.below.cell (World.block_lt_of_cell? _ _ g1q)]; exact g1q
      rw [if_pos (by rfl)]; unfold Oper.wp execOp; generalize A.eval = ev at e0 ⊢; go_simp; exact hK _ _ (hG.first (by first | rfl | (simp; done) | (simp; omega) | (simp; assumption)))
    · intro dn us w6 A hev hy hG hdn hdep K hK
      have e0 : A.eval (.tmp 42) = .int .i64 1 := by rw [hev]; exact hG.pre 3 (dm 3 hdep rfl)
      have e1 : A.eval (.tmp 47) = .int .i64 1 := by rw [hev]; exact hG.pre 8 (dm 8 hdep rfl)
      rw [if_pos (by rfl)]; unfold Oper.wp execOp; generalize A.eval = ev at e0 e1 ⊢; go_simp; exact hK _ _ (hG.first (by first | rfl | (simp; done) | (simp; omega) | (simp; assumption)))
    intro dn us w5 hG hall
    have u9 : us 9 = .bool true := hG.pre 9 (hall 9 (by decide))
    have D5 := hG.below
    simp only [fillA, fillT, Act.put, Nat.reduceAdd, List.setIfInBounds_toArray, List.set_cons_zero, List.set_cons_succ, u9]
    clear hG hall u9
    have A5 := A4.below' D5
    go_upto_region 7 with (refine wpl_st rfl 4 _ _ rfl (Scn.cells ⟨c, 0, 1, n, next, [l], true, er, rd, prs⟩ lv pv) rfl _ rfl A5 (by kernel_rfl) rfl rfl rfl ?_; intro W6 A6 O6)
    have OO : Only (fun j => j = b) w W6 := ((((O1.thenBelow D2).trans O3).trans O4).thenBelow D5).trans O6
    have HI6 := Lib.hid (HI.out.only OO (fun b' hb' e => HNB.out (by have e' : b' = b := e; rw [← e']; exact hb')))
    have LW6 := Lib.hid OO.size
    have M1 := Lib.hid (show ∀ w w' v, PairsIn w N v (mrg [l] c.limit) → Below w.heap.size w w' → PairsIn w' N v (mrg [l] c.limit) from fun _ _ _ h hb => h.below hb)
    have M2 := Lib.hid (show ∀ (w w' : World) (v : Value), (∃ q, v = .agg #[.int .i64 0, .bool true, .int .u64 0, q] ∧ PairsIn w N q (mrg [l] c.limit)) → Below w.heap.size w w' → (∃ q, v = .agg #[.int .i64 0, .bool true, .int .u64 0, q] ∧ PairsIn w' N q (mrg [l] c.limit)) from fun _ _ _ ⟨q, a, h⟩ hb => ⟨q, a, h.below hb⟩)
    refine wp_region_C (l := [_, _, _, _, _, _, _, _, _, _, _, _, _, _, _]) (LG 14 (FL (fun j v => match j with | 0 => v = .pointer (some ⟨b, 0, none⟩) | 1 => v = .pointer (some ⟨b, 0, none⟩) | 2 => v = .pointer (some ⟨b, 0, none⟩) | 3 => v = .pointer (some ⟨b, 8, none⟩) | 4 => v = lv | 5 => v = .pointer (some ⟨b, 0, none⟩) | 6 => v = .pointer (some ⟨b, 0, none⟩) | 7 => v = .pointer (some ⟨b, 0, none⟩) | 8 => v = .pointer (some ⟨b, 3, none⟩) | 9 => v = .int .i64 c.limit | 12 => v = .pointer (some ⟨b, 0, none⟩) | 13 => v = .pointer (some ⟨b, 10, none⟩) | _ => True) 10 11 (fun w v => PairsIn w N v (mrg [l] c.limit)) (fun w v => ∃ q, v = .agg #[.int .i64 0, .bool true, .int .u64 0, q] ∧ PairsIn w N q (mrg [l] c.limit))) W6 (fun _ w => ∃ q, At w b 53 (Scn.cells ⟨c, 0, 1, n, next, [l], true, 0, true, mrg [l] c.limit⟩ lv q) ∧ PairsIn w N q (mrg [l] c.limit) ∧ Only (fun j => j = b) W6 w)) (by kernel_rfl) (by kernel_rfl) (fun us => LG.start us) ⟨?_, ?_, ?_, ?_, ?_, ?_, ?_, ?_, ?_, ?_, ?_, ?_, ?_, ?_, ?_, trivial⟩ ?_
    · intro dn us w6 A hev hy hG hcl hdn hdep K hK
      have e0 : A.eval (.tmp 0) = .pointer (some ⟨b, 0, none⟩) := by rw [hev]; rfl
      rw [if_pos (by rfl)]; unfold Oper.wp execOp; generalize A.eval = ev at e0 ⊢; go_simp; exact hK _ _ (hG.plain hdn (by decide) (by decide) (by decide) (by first | rfl | (simp; done) | (simp; omega) | (simp; assumption)))
    · intro dn us w6 A hev hy hG hcl hdn hdep K hK
      have e0 : A.eval (.tmp 0) = .pointer (some ⟨b, 0, none⟩) := by rw [hev]; rfl
      rw [if_pos (by rfl)]; unfold Oper.wp execOp; generalize A.eval = ev at e0 ⊢; go_simp; exact hK _ _ (hG.plain hdn (by decide) (by decide) (by decide) (by first | rfl | (simp; done) | (simp; omega) | (simp; assumption)))
    · intro dn us w6 A hev hy hG hcl hdn hdep K hK
      have d1 : dn 1 = true := allD_mem hdep (by decide)
      have e0 : A.eval (.tmp 53) = .pointer (some ⟨b, 0, none⟩) := by rw [hev]; exact hG.val hdn (by decide) d1
      rw [if_pos (by rfl)]; unfold Oper.wp execOp; generalize A.eval = ev at e0 ⊢; go_simp; exact hK _ _ (hG.plain hdn (by decide) (by decide) (by decide) (by first | rfl | (simp; done) | (simp; omega) | (simp; assumption)))
    · intro dn us w6 A hev hy hG hcl hdn hdep K hK
      have d2 : dn 2 = true := allD_mem hdep (by decide)
      have e0 : A.eval (.tmp 54) = .pointer (some ⟨b, 0, none⟩) := by rw [hev]; exact hG.val hdn (by decide) d2
      rw [if_pos (by rfl)]; unfold Oper.wp execOp; generalize A.eval = ev at e0 ⊢; go_simp; exact hK _ _ (hG.plain hdn (by decide) (by decide) (by decide) (by first | rfl | (simp; done) | (simp; omega) | (simp; assumption)))
    · intro dn us w6 A hev hy hG hcl hdn hdep K hK
      have d3 : dn 3 = true := allD_mem hdep (by decide)
      have e0 : A.eval (.tmp 55) = .pointer (some ⟨b, 8, none⟩) := by rw [hev]; exact hG.val hdn (by decide) d3
      have hb6 := hG.below (hG.not hdn (by decide))
      have cc0 : w6.cell? ⟨b, 8, none⟩ = some lv := by rw [hb6.cell A6.lt]; exact A6.cell 8
      rw [if_pos (by rfl)]; unfold Oper.wp execOp; generalize A.eval = ev at e0 ⊢; go_simp; exact hK _ _ (hG.plain hdn (by decide) (by decide) (by decide) (by first | rfl | (simp; done) | (simp; omega) | (simp; assumption)))
    · intro dn us w6 A hev hy hG hcl hdn hdep K hK
      have e0 : A.eval (.tmp 0) = .pointer (some ⟨b, 0, none⟩) := by rw [hev]; rfl
      rw [if_pos (by rfl)]; unfold Oper.wp execOp; generalize A.eval = ev at e0 ⊢; go_simp; exact hK _ _ (hG.plain hdn (by decide) (by decide) (by decide) (by first | rfl | (simp; done) | (simp; omega) | (simp; assumption)))
    · intro dn us w6 A hev hy hG hcl hdn hdep K hK
      have d5 : dn 5 = true := allD_mem hdep (by decide)
      have e0 : A.eval (.tmp 57) = .pointer (some ⟨b, 0, none⟩) := by rw [hev]; exact hG.val hdn (by decide) d5
      rw [if_pos (by rfl)]; unfold Oper.wp execOp; generalize A.eval = ev at e0 ⊢; go_simp; exact hK _ _ (hG.plain hdn (by decide) (by decide) (by decide) (by first | rfl | (simp; done) | (simp; omega) | (simp; assumption)))
    · intro dn us w6 A hev hy hG hcl hdn hdep K hK
      have d6 : dn 6 = true := allD_mem hdep (by decide)
      have e0 : A.eval (.tmp 58) = .pointer (some ⟨b, 0, none⟩) := by rw [hev]; exact hG.val hdn (by decide) d6
      rw [if_pos (by rfl)]; unfold Oper.wp execOp; generalize A.eval = ev at e0 ⊢; go_simp; exact hK _ _ (hG.plain hdn (by decide) (by decide) (by decide) (by first | rfl | (simp; done) | (simp; omega) | (simp; assumption)))
    · intro dn us w6 A hev hy hG hcl hdn hdep K hK
      have d7 : dn 7 = true := allD_mem hdep (by decide)
      have e0 : A.eval (.tmp 59) = .pointer (some ⟨b, 0, none⟩) := by rw [hev]; exact hG.val hdn (by decide) d7
      rw [if_pos (by rfl)]; unfold Oper.wp execOp; generalize A.eval = ev at e0 ⊢; go_simp; exact hK _ _ (hG.plain hdn (by decide) (by decide) (by decide) (by first | rfl | (simp; done) | (simp; omega) | (simp; assumption)))
    · intro dn us w6 A hev hy hG hcl hdn hdep K hK
      have d8 : dn 8 = true := allD_mem hdep (by decide)
      have e0 : A.eval (.tmp 60) = .pointer (some ⟨b, 3, none⟩) := by rw [hev]; exact hG.val hdn (by decide) d8
      have hb6 := hG.below (hG.not hdn (by decide))
      have cc0 : w6.cell? ⟨b, 3, none⟩ = some (.int .i64 c.limit) := by rw [hb6.cell A6.lt]; exact A6.cell 3
      rw [if_pos (by rfl)]; unfold Oper.wp execOp; generalize A.eval = ev at e0 ⊢; go_simp; exact hK _ _ (hG.plain hdn (by decide) (by decide) (by decide) (by first | rfl | (simp; done) | (simp; omega) | (simp; assumption)))
    · intro dn us w6 A hev hy hG hcl hdn hdep K hK
      have d4 : dn 4 = true := allD_mem hdep (by decide)
      have d9 : dn 9 = true := allD_mem hdep (by decide)
      have e0 : A.eval (.tmp 56) = lv := by rw [hev]; exact hG.val hdn (by decide) d4
      have e1 : A.eval (.tmp 61) = .int .i64 c.limit := by rw [hev]; exact hG.val hdn (by decide) d9
      have ef : A.eval (.func 141) = .func (.func 141) #[] #[] := by rw [hev]; rfl
      have hb6 := hG.below (hG.not hdn (by decide))
      rw [if_pos (by rfl)]; unfold Oper.wp execOp; generalize A.eval = ev at e0 e1 ef ⊢; go_simp; refine (mpairs_any c.limit w6 (HI6.out.below hb6) hl (fun b' hb' => HN.out b' (by have := hb6.size; have := LW6.out; omega))).mono ?_
      rintro e wq ⟨v, rfl, hP, hb⟩
      exact hK _ _ (hG.sp1 hdn (by decide) (by decide) M1.out M2.out trivial hP hb)
    · intro dn us w6 A hev hy hG hcl hdn hdep K hK
      have d10 : dn 10 = true := allD_mem hdep (by decide)
      have hP := (hG.pre (hG.not hdn (by decide)) 10 d10).2.1 rfl
      have e0 : A.eval (.tmp 62) = us 10 := by rw [hev]; rfl
      have e1 : A.eval (.const (.bool true)) = .bool true := by rw [hev]; rfl
      obtain ⟨ao, cap, hq⟩ := hP.form
      rw [hq] at e0 hP
      rw [if_pos (by rfl)]; unfold Oper.wp execOp; generalize A.eval = ev at e0 e1 ⊢; go_simp; exact hK _ _ (hG.sp2 hdn (by decide) (by decide) M1.out M2.out trivial ⟨_, rfl, hP⟩ (Below.refl _ _))
    · intro dn us w6 A hev hy hG hcl hdn hdep K hK
      have d0 : dn 0 = true := allD_mem hdep (by decide)
      have e0 : A.eval (.tmp 52) = .pointer (some ⟨b, 0, none⟩) := by rw [hev]; exact hG.val hdn (by decide) d0
      rw [if_pos (by rfl)]; unfold Oper.wp execOp; generalize A.eval = ev at e0 ⊢; go_simp; exact hK _ _ (hG.plain hdn (by decide) (by decide) (by decide) (by first | rfl | (simp; done) | (simp; omega) | (simp; assumption)))
    · intro dn us w6 A hev hy hG hcl hdn hdep K hK
      have d12 : dn 12 = true := allD_mem hdep (by decide)
      have e0 : A.eval (.tmp 64) = .pointer (some ⟨b, 0, none⟩) := by rw [hev]; exact hG.val hdn (by decide) d12
      rw [if_pos (by rfl)]; unfold Oper.wp execOp; generalize A.eval = ev at e0 ⊢; go_simp; exact hK _ _ (hG.plain hdn (by decide) (by decide) (by decide) (by first | rfl | (simp; done) | (simp; omega) | (simp; assumption)))
    · intro dn us w6 A hev hy hG hcl hdn hdep K hK
      have d11 : dn 11 = true := allD_mem hdep (by decide)
      have d13 : dn 13 = true := allD_mem hdep (by decide)
      have hall : ∀ j, j < 14 → dn j = true := by
        have d12 : dn 12 = true := allD_mem (hcl 13 d13) (by decide)
        have d0 : dn 0 = true := allD_mem (hcl 12 d12) (by decide)
        have d10 : dn 10 = true := allD_mem (hcl 11 d11) (by decide)
        have d4 : dn 4 = true := allD_mem (hcl 10 d10) (by decide)
        have d9 : dn 9 = true := allD_mem (hcl 10 d10) (by decide)
        have d3 : dn 3 = true := allD_mem (hcl 4 d4) (by decide)
        have d2 : dn 2 = true := allD_mem (hcl 3 d3) (by decide)
        have d1 : dn 1 = true := allD_mem (hcl 2 d2) (by decide)
        have d8 : dn 8 = true := allD_mem (hcl 9 d9) (by decide)
        have d7 : dn 7 = true := allD_mem (hcl 8 d8) (by decide)
        have d6 : dn 6 = true := allD_mem (hcl 7 d7) (by decide)
        have d5 : dn 5 = true := allD_mem (hcl 6 d6) (by decide)
        intro j hj
        match j, hj with
        | 0, _ => exact d0
        | 1, _ => exact d1
        | 2, _ => exact d2
        | 3, _ => exact d3
        | 4, _ => exact d4
        | 5, _ => exact d5
        | 6, _ => exact d6
        | 7, _ => exact d7
        | 8, _ => exact d8
        | 9, _ => exact d9
        | 10, _ => exact d10
        | 11, _ => exact d11
        | 12, _ => exact d12
        | 13, _ => exact d13
      obtain ⟨q, hq, hP⟩ := (hG.pre hdn 11 d11).2.2 rfl
      obtain ⟨ao, cap, rfl⟩ := hP.form
      have e0 : A.eval (.tmp 65) = .pointer (some ⟨b, 10, none⟩) := by rw [hev]; exact hG.valS hdn d13
      have e1 : A.eval (.tmp 63) = .agg #[.int .i64 0, .bool true, .int .u64 0, .slice ao (mrg [l] c.limit).length cap] := by rw [hev]; exact hq
      have A66 := A6.below' (hG.below hdn)
      refine step_list (wpl_st rfl 51 (.tmp 65) (.tmp 63) rfl (Scn.cells ⟨c, 0, 1, n, next, [l], true, 0, true, mrg [l] c.limit⟩ lv (.slice ao (mrg [l] c.limit).length cap)) e0 _ e1 A66 (by kernel_rfl) rfl rfl rfl fun w7 A7 O7 => ⟨rfl, ?_⟩)
      exact hK _ _ (LG.stored hall ⟨_, A7, hP.only O7 (fun b' hb' e => HNB.out (by have e' : b' = b := e; rw [← e']; exact hb')), (Only.ofBelow _ (hG.below hdn)).trans O7⟩)
    intro dn us w7 hG hall
    obtain ⟨q, A7, hP, O7⟩ := hG.st (hall 14 (by decide))
    simp only [fillA, fillT, Act.put, Nat.reduceAdd, List.setIfInBounds_toArray, List.set_cons_zero, List.set_cons_succ]
    go_end0
    exact ⟨rfl, q, A7, hP, OO.trans O7⟩
end Go.Proofs.YtccmjljlfgbicaaGreat

