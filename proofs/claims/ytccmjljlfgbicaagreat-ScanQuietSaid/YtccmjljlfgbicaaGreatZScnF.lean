/- Contracts of a scan's look at a list's last pair, and of slices.Clip. Printed by scnf.py. -/
import Derived.Test.YtccmjljlfgbicaaGreatSq
import Derived.Test.YtccmjljlfgbicaaGreatZScn
import Derived.Test.YtccmjljlfgbicaaGreatRegQ
namespace Go.Proofs.YtccmjljlfgbicaaGreat
open Go.ChangeShapes Go.WideShapes Go.ChangeAt Go.RowKit

set_option maxRecDepth 100000 in
set_option maxHeartbeats 4000000 in
theorem fresh_any {l : List (Int × Int)} {N : Nat → Prop} {v : Value} (key : Int) (g5 : Nat) (w : World) (hp : PairsIn w N v l) (hl : l.length ≤ 100000) (ck : w.cell? ⟨g5, 0, none⟩ = some (.int .u64 key)) :
    Calls Tryz.prog 145 #[v, .pointer (some ⟨g5, 0, none⟩)] w fun e w' => e = .returned (.bool (freshP l key)) ∧ Below w.heap.size w w' := by
  rcases hp with ⟨rfl, ao, cap, rfl⟩ | ⟨b, o, cap, rfl, h2, h3, h4, h5⟩
  · go_enter Tryz.func145, Tryz.ntmps145
    go_upto_region 1 with fail
    refine wp_region_J (l := [_, _, _, _, _, _, _, _, _, _, _, _, _, _, _]) (QG (fun j v => match j with | 0 => v = .slice ao 0 cap | 1 => v = .int .i64 0 | 2 => v = .bool true | 3 => v = .bool true | 13 => v = .bool true | 14 => v = .bool true | _ => True) w) (by kernel_rfl) (by kernel_rfl) (fun us => QG.start us) ⟨?_, ?_, ?_, ?_, ?_, ?_, ?_, ?_, ?_, ?_, ?_, ?_, ?_, ?_, ?_, trivial⟩ ?_
    · intro dn us w6 A hev hy hG hdn hdep K hK
      have e0 : A.eval (.tmp 0) = .slice ao 0 cap := by rw [hev]; rfl
      rw [if_pos (by rfl)]; unfold Oper.wp execOp; generalize A.eval = ev at e0 ⊢; go_simp; exact hK _ _ (hG.first (by first | rfl | (simp; done) | (simp; omega) | (simp; assumption)))
    · intro dn us w6 A hev hy hG hdn hdep K hK
      have e0 : A.eval (.tmp 4) = .slice ao 0 cap := by rw [hev]; exact hG.pre 0 (dm 0 hdep rfl)
      rw [if_pos (by rfl)]; unfold Oper.wp execOp; generalize A.eval = ev at e0 ⊢; go_simp; exact hK _ _ (hG.first (by first | rfl | (simp; done) | (simp; omega) | (simp; assumption)))
    · intro dn us w6 A hev hy hG hdn hdep K hK
      have e0 : A.eval (.tmp 5) = .int .i64 0 := by rw [hev]; exact hG.pre 1 (dm 1 hdep rfl)
      have e1 : A.eval (.const (.int .i64 0)) = .int .i64 0 := by rw [hev]; rfl
      rw [if_pos (by rfl)]; unfold Oper.wp execOp; generalize A.eval = ev at e0 e1 ⊢; go_simp; exact hK _ _ (hG.first (by first | rfl | (simp; done) | (simp; omega) | (simp; assumption)))
    · intro dn us w6 A hev hy hG hdn hdep K hK
      have e0 : A.eval (.tmp 6) = .bool true := by rw [hev]; exact hG.pre 2 (dm 2 hdep rfl)
      rw [if_pos (by rfl)]; unfold Oper.wp execOp; generalize A.eval = ev at e0 ⊢; go_simp; exact hK _ _ (hG.first (by first | rfl | (simp; done) | (simp; omega) | (simp; assumption)))
    · intro dn us w6 A hev hy hG hdn hdep K hK
      have hg : us 3 = .bool true := hG.pre 3 (dm 3 hdep rfl)
      rw [if_neg (by rw [hy]; exact yn false hg rfl)]
      exact hK _ _ (hG.first trivial)
    · intro dn us w6 A hev hy hG hdn hdep K hK
      have hg : us 3 = .bool true := hG.pre 3 (dm 3 hdep rfl)
      rw [if_neg (by rw [hy]; exact yn false hg rfl)]
      exact hK _ _ (hG.first trivial)
    · intro dn us w6 A hev hy hG hdn hdep K hK
      have hg : us 3 = .bool true := hG.pre 3 (dm 3 hdep rfl)
      rw [if_neg (by rw [hy]; exact yn false hg rfl)]
      exact hK _ _ (hG.first trivial)
    · intro dn us w6 A hev hy hG hdn hdep K hK
      have e0 : A.eval (.const (.int .i64 1)) = .int .i64 1 := by rw [hev]; rfl
      have hg : us 3 = .bool true := hG.pre 3 (dm 3 hdep rfl)
      rw [if_neg (by rw [hy]; exact yn false hg rfl)]
      exact hK _ _ (hG.first trivial)
    · intro dn us w6 A hev hy hG hdn hdep K hK
      have hg : us 3 = .bool true := hG.pre 3 (dm 3 hdep rfl)
      rw [if_neg (by rw [hy]; exact yn false hg rfl)]
      exact hK _ _ (hG.first trivial)
    · intro dn us w6 A hev hy hG hdn hdep K hK
      have hg : us 3 = .bool true := hG.pre 3 (dm 3 hdep rfl)
      rw [if_neg (by rw [hy]; exact yn false hg rfl)]
      exact hK _ _ (hG.first trivial)
    · intro dn us w6 A hev hy hG hdn hdep K hK
      have hg : us 3 = .bool true := hG.pre 3 (dm 3 hdep rfl)
      rw [if_neg (by rw [hy]; exact yn false hg rfl)]
      exact hK _ _ (hG.first trivial)
    · intro dn us w6 A hev hy hG hdn hdep K hK
      have hg : us 3 = .bool true := hG.pre 3 (dm 3 hdep rfl)
      rw [if_neg (by rw [hy]; exact yn false hg rfl)]
      exact hK _ _ (hG.first trivial)
    · intro dn us w6 A hev hy hG hdn hdep K hK
      have hg : us 3 = .bool true := hG.pre 3 (dm 3 hdep rfl)
      rw [if_neg (by rw [hy]; exact yn false hg rfl)]
      exact hK _ _ (hG.first trivial)
    · intro dn us w6 A hev hy hG hdn hdep K hK
      have e0 : A.eval (.tmp 7) = .bool true := by rw [hev]; exact hG.pre 3 (dm 3 hdep rfl)
      have e1 : A.eval (.const (.bool true)) = .bool true := by rw [hev]; rfl
      rw [if_pos (by rfl)]; unfold Oper.wp execOp; generalize A.eval = ev at e0 e1 ⊢; go_simp; exact hK _ _ (hG.first (by first | rfl | (simp; done) | (simp; omega) | (simp; assumption)))
    · intro dn us w6 A hev hy hG hdn hdep K hK
      have e0 : A.eval (.tmp 17) = .bool true := by rw [hev]; exact hG.pre 13 (dm 13 hdep rfl)
      rw [if_pos (by rfl)]; unfold Oper.wp execOp; generalize A.eval = ev at e0 ⊢; go_simp; exact hK _ _ (hG.first (by first | rfl | (simp; done) | (simp; omega) | (simp; assumption)))
    intro dn us w2 hG hall
    have u14 : us 14 = .bool true := hG.pre 14 (hall 14 (by decide))
    have D2 := hG.below
    simp only [fillA, fillT, Nat.reduceAdd, List.setIfInBounds_toArray, List.set_cons_zero, List.set_cons_succ, u14]
    clear hG hall u14
    go_wp2_with fail
    go_ret
    exact ⟨rfl, D2⟩
  · obtain ⟨l0, p, rfl⟩ : ∃ l0 p, l = l0 ++ [p] := by
      rcases List.eq_nil_or_concat l with e | ⟨l0, p, e⟩
      · exact (h2 e).elim
      · exact ⟨l0, p, by rw [e, List.concat_eq_append]⟩
    have hf : freshP (l0 ++ [p]) key = (p.1 != key) := by unfold freshP; rw [List.getLast?_concat]
    obtain ⟨m, hm⟩ : ∃ m, l0.length = m := ⟨_, rfl⟩
    have hg : (l0 ++ [p])[m]? = some p := by rw [← hm, List.getElem?_append_right (Nat.le_refl _), Nat.sub_self]; rfl
    have c0 := h5 _ _ (pairsV_get hg).1
    rw [hf]
    rw [show (l0 ++ [p]).length = m + 1 by simp [hm]] at *
    have HZ := Lib.hid (show (((m : Int) + 1) == 0) = false by rw [beq_eq_false_iff_ne]; omega)
    have HW := Lib.hid (show IntKind.i64.wrap ((m : Int) + 1 - 1) = (m : Int) ∧ IntKind.i64.wrap (m : Int) = (m : Int) by rw [show (m : Int) + 1 - 1 = m by omega]; exact ⟨IntWalk.i64_in _ (by omega), IntWalk.i64_in _ (by omega)⟩)
    have HB := Lib.hid (show 0 ≤ (m : Int) ∧ (m : Int) < (m : Int) + 1 by omega)
    clear h2 h3 h4 h5 hf hm hg hl
    go_enter Tryz.func145, Tryz.ntmps145
    go_upto_region 1 with fail
    refine wp_region_J (l := [_, _, _, _, _, _, _, _, _, _, _, _, _, _, _]) (QG (fun j v => match j with | 0 => v = .slice (some ⟨b, o, none⟩) (m + 1 : Nat) cap | 1 => v = .int .i64 ((m : Int) + 1) | 2 => v = .bool false | 3 => v = .bool false | 4 => v = .slice (some ⟨b, o, none⟩) (m + 1 : Nat) cap | 5 => v = .slice (some ⟨b, o, none⟩) (m + 1 : Nat) cap | 6 => v = .int .i64 ((m : Int) + 1) | 7 => v = .int .i64 m | 8 => v = .pointer (some ⟨b, o + m * 2, none⟩) | 9 => v = .pointer (some ⟨b, o + m * 2, none⟩) | 10 => v = .int .u64 p.1 | 11 => v = .int .u64 key | 12 => v = .bool (p.1 != key) | 13 => v = .bool (p.1 != key) | 14 => v = .bool (p.1 != key) | _ => True) w) (by kernel_rfl) (by kernel_rfl) (fun us => QG.start us) ⟨?_, ?_, ?_, ?_, ?_, ?_, ?_, ?_, ?_, ?_, ?_, ?_, ?_, ?_, ?_, trivial⟩ ?_
    · intro dn us w6 A hev hy hG hdn hdep K hK
      have e0 : A.eval (.tmp 0) = .slice (some ⟨b, o, none⟩) (m + 1 : Nat) cap := by rw [hev]; rfl
      rw [if_pos (by rfl)]; unfold Oper.wp execOp; generalize A.eval = ev at e0 ⊢; go_simp; exact hK _ _ (hG.first (by first | rfl | (simp; done) | (simp; omega) | (simp; assumption)))
    · intro dn us w6 A hev hy hG hdn hdep K hK
      have e0 : A.eval (.tmp 4) = .slice (some ⟨b, o, none⟩) (m + 1 : Nat) cap := by rw [hev]; exact hG.pre 0 (dm 0 hdep rfl)
      rw [if_pos (by rfl)]; unfold Oper.wp execOp; generalize A.eval = ev at e0 ⊢; go_simp; exact hK _ _ (hG.first (by first | rfl | (simp; done) | (simp; omega) | (simp; assumption)))
    · intro dn us w6 A hev hy hG hdn hdep K hK
      have e0 : A.eval (.tmp 5) = .int .i64 ((m : Int) + 1) := by rw [hev]; exact hG.pre 1 (dm 1 hdep rfl)
      have e1 : A.eval (.const (.int .i64 0)) = .int .i64 0 := by rw [hev]; rfl
      have hz := HZ.out
      rw [if_pos (by rfl)]; unfold Oper.wp execOp; generalize A.eval = ev at e0 e1 ⊢; go_simp; exact hK _ _ (hG.first (by first | rfl | (simp; done) | (simp; omega) | (simp; assumption)))
    · intro dn us w6 A hev hy hG hdn hdep K hK
      have e0 : A.eval (.tmp 6) = .bool false := by rw [hev]; exact hG.pre 2 (dm 2 hdep rfl)
      rw [if_pos (by rfl)]; unfold Oper.wp execOp; generalize A.eval = ev at e0 ⊢; go_simp; exact hK _ _ (hG.first (by first | rfl | (simp; done) | (simp; omega) | (simp; assumption)))
    · intro dn us w6 A hev hy hG hdn hdep K hK
      have e0 : A.eval (.tmp 0) = .slice (some ⟨b, o, none⟩) (m + 1 : Nat) cap := by rw [hev]; rfl
      have hg : us 3 = .bool false := hG.pre 3 (dm 3 hdep rfl)
      rw [if_pos (by rw [hy]; exact yb hg)]; unfold Oper.wp execOp; generalize A.eval = ev at e0 ⊢; go_simp; exact hK _ _ (hG.first (by first | rfl | (simp; done) | (simp; omega) | (simp; assumption)))
    · intro dn us w6 A hev hy hG hdn hdep K hK
      have e0 : A.eval (.tmp 0) = .slice (some ⟨b, o, none⟩) (m + 1 : Nat) cap := by rw [hev]; rfl
      have hg : us 3 = .bool false := hG.pre 3 (dm 3 hdep rfl)
      rw [if_pos (by rw [hy]; exact yb hg)]; unfold Oper.wp execOp; generalize A.eval = ev at e0 ⊢; go_simp; exact hK _ _ (hG.first (by first | rfl | (simp; done) | (simp; omega) | (simp; assumption)))
    · intro dn us w6 A hev hy hG hdn hdep K hK
      have e0 : A.eval (.tmp 9) = .slice (some ⟨b, o, none⟩) (m + 1 : Nat) cap := by rw [hev]; exact hG.pre 5 (dm 5 hdep rfl)
      have hg : us 3 = .bool false := hG.pre 3 (dm 3 hdep rfl)
      rw [if_pos (by rw [hy]; exact yb hg)]; unfold Oper.wp execOp; generalize A.eval = ev at e0 ⊢; go_simp; exact hK _ _ (hG.first (by first | rfl | (simp; done) | (simp; omega) | (simp; assumption)))
    · intro dn us w6 A hev hy hG hdn hdep K hK
      have e0 : A.eval (.tmp 10) = .int .i64 ((m : Int) + 1) := by rw [hev]; exact hG.pre 6 (dm 6 hdep rfl)
      have e1 : A.eval (.const (.int .i64 1)) = .int .i64 1 := by rw [hev]; rfl
      have hw := HW.out
      have hg : us 3 = .bool false := hG.pre 3 (dm 3 hdep rfl)
      rw [if_pos (by rw [hy]; exact yb hg)]; unfold Oper.wp execOp; generalize A.eval = ev at e0 e1 ⊢; go_simp; exact hK _ _ (hG.first (by first | rfl | (simp; done) | (simp; omega) | (simp; assumption)))
    · intro dn us w6 A hev hy hG hdn hdep K hK
      have e0 : A.eval (.tmp 8) = .slice (some ⟨b, o, none⟩) (m + 1 : Nat) cap := by rw [hev]; exact hG.pre 4 (dm 4 hdep rfl)
      have e1 : A.eval (.tmp 11) = .int .i64 m := by rw [hev]; exact hG.pre 7 (dm 7 hdep rfl)
      have hb2 := HB.out
      have hg : us 3 = .bool false := hG.pre 3 (dm 3 hdep rfl)
      rw [if_pos (by rw [hy]; exact yb hg)]; unfold Oper.wp execOp; generalize A.eval = ev at e0 e1 ⊢; go_simp; exact hK _ _ (hG.first (by first | rfl | (simp; done) | (simp; omega) | (simp; assumption)))
    · intro dn us w6 A hev hy hG hdn hdep K hK
      have e0 : A.eval (.tmp 12) = .pointer (some ⟨b, o + m * 2, none⟩) := by rw [hev]; exact hG.pre 8 (dm 8 hdep rfl)
      have hg : us 3 = .bool false := hG.pre 3 (dm 3 hdep rfl)
      rw [if_pos (by rw [hy]; exact yb hg)]; unfold Oper.wp execOp; generalize A.eval = ev at e0 ⊢; go_simp; exact hK _ _ (hG.first (by first | rfl | (simp; done) | (simp; omega) | (simp; assumption)))
    · intro dn us w6 A hev hy hG hdn hdep K hK
      have e0 : A.eval (.tmp 13) = .pointer (some ⟨b, o + m * 2, none⟩) := by rw [hev]; exact hG.pre 9 (dm 9 hdep rfl)
      have cc0 : w6.cell? ⟨b, o + m * 2, none⟩ = some (.int .u64 p.1) := by rw [hG.below.cell (World.block_lt_of_cell? _ _ c0)]; exact c0
      have hg : us 3 = .bool false := hG.pre 3 (dm 3 hdep rfl)
      rw [if_pos (by rw [hy]; exact yb hg)]; unfold Oper.wp execOp; generalize A.eval = ev at e0 ⊢; go_simp; exact hK _ _ (hG.first (by first | rfl | (simp; done) | (simp; omega) | (simp; assumption)))
    · intro dn us w6 A hev hy hG hdn hdep K hK
      have e0 : A.eval (.tmp 1) = .pointer (some ⟨g5, 0, none⟩) := by rw [hev]; rfl
      have cc0 : w6.cell? ⟨g5, 0, none⟩ = some (.int .u64 key) := by rw [hG.below.cell (World.block_lt_of_cell? _ _ ck)]; exact ck
      have hg : us 3 = .bool false := hG.pre 3 (dm 3 hdep rfl)
      rw [if_pos (by rw [hy]; exact yb hg)]; unfold Oper.wp execOp; generalize A.eval = ev at e0 ⊢; go_simp; exact hK _ _ (hG.first (by first | rfl | (simp; done) | (simp; omega) | (simp; assumption)))
    · intro dn us w6 A hev hy hG hdn hdep K hK
      have e0 : A.eval (.tmp 14) = .int .u64 p.1 := by rw [hev]; exact hG.pre 10 (dm 10 hdep rfl)
      have e1 : A.eval (.tmp 15) = .int .u64 key := by rw [hev]; exact hG.pre 11 (dm 11 hdep rfl)
      have hg : us 3 = .bool false := hG.pre 3 (dm 3 hdep rfl)
      rw [if_pos (by rw [hy]; exact yb hg)]; unfold Oper.wp execOp; generalize A.eval = ev at e0 e1 ⊢; go_simp; exact hK _ _ (hG.first (by first | rfl | (simp; done) | (simp; omega) | (simp; assumption)))
    · intro dn us w6 A hev hy hG hdn hdep K hK
      have e0 : A.eval (.tmp 7) = .bool false := by rw [hev]; exact hG.pre 3 (dm 3 hdep rfl)
      have e1 : A.eval (.const (.bool true)) = .bool true := by rw [hev]; rfl
      have e2 : A.eval (.tmp 16) = .bool (p.1 != key) := by rw [hev]; exact hG.pre 12 (dm 12 hdep rfl)
      rw [if_pos (by rfl)]; unfold Oper.wp execOp; generalize A.eval = ev at e0 e1 e2 ⊢; go_simp; exact hK _ _ (hG.first (by first | rfl | (simp; done) | (simp; omega) | (simp; assumption)))
    · intro dn us w6 A hev hy hG hdn hdep K hK
      have e0 : A.eval (.tmp 17) = .bool (p.1 != key) := by rw [hev]; exact hG.pre 13 (dm 13 hdep rfl)
      rw [if_pos (by rfl)]; unfold Oper.wp execOp; generalize A.eval = ev at e0 ⊢; go_simp; exact hK _ _ (hG.first (by first | rfl | (simp; done) | (simp; omega) | (simp; assumption)))
    intro dn us w2 hG hall
    have u14 : us 14 = .bool (p.1 != key) := hG.pre 14 (hall 14 (by decide))
    have D2 := hG.below
    simp only [fillA, fillT, Nat.reduceAdd, List.setIfInBounds_toArray, List.set_cons_zero, List.set_cons_succ, u14]
    clear hG hall u14
    go_wp2_with fail
    go_ret
    exact ⟨rfl, D2⟩

set_option maxRecDepth 100000 in
theorem clip_any (ao : Option Addr) (n cap : Nat) (w : World) (h : n ≤ cap) :
    Calls Tryz.prog 146 #[.slice ao n cap] w fun e w' => e = .returned (.slice ao n n) ∧ w = w' := by
  have h1 : (n : Int) ≤ cap := by omega
  go_enter Tryz.func146, Tryz.ntmps146
  go_wp2_with fail
  go_ret
  exact ⟨rfl, rfl⟩

theorem pairinfoF : (Tryz.prog.info? 103).map (fun i => (i.zero, i.size, i.bytes)) = some (some (.agg #[.int .u64 0, .int .u64 0]), 2, 16) := by kernel_rfl
theorem grown_none_below {w w' : World} (h : w.grownBy w' none) : Below w.heap.size w w' := ⟨h.os, h.tape, h.output, h.size, fun i hi => h.block i hi (by intro e; cases e)⟩
set_option maxRecDepth 100000 in
theorem append_clip {l : List (Int × Int)} {N : Nat → Prop} {ao : Option Addr} {cap : Nat} (w : World) (ty : TypeId) (hp : PairsIn w N (.slice ao l.length cap) l) (hN : ∀ b, w.heap.size ≤ b → N b) (ad : Addr) (c : Nat) (p : Int × Int)
    (h0 : w.cell? ad = some (.int .u64 p.1)) (h1 : w.cell? (ad.add 1) = some (.int .u64 p.2)) (hl : l.length ≤ 100000) :
    ∃ v' w', (Builtin.append_ #[49, 49] ty #[.slice ao l.length l.length, .slice (some ad) 1 c]).run Tryz.prog w = .ok v' w' ∧ PairsIn w' N v' (l ++ [p]) ∧ Below w.heap.size w w' := by
  obtain ⟨i, hi, hz, hsz, hby⟩ := info_parts pairinfoF
  have hn : ∀ j u, [Value.int .u64 p.1, .int .u64 p.2][j]? = some u → w.cell? (ad.add j) = some u := by
    intro j u hu
    match j, hu with
    | 0, hu => cases hu; simpa [Addr.add] using h0
    | 1, hu => cases hu; exact h1
  have fin : ∀ (v' : Value) (w' : World) (row : Option Nat), w'.ownsRow w.heap.size 103 2 v' (l.length + 1) (pairsV l ++ [.int .u64 p.1, .int .u64 p.2]) → Below w.heap.size w w' → PairsIn w' N v' (l ++ [p]) ∧ Below w.heap.size w w' := by
    intro v' w' _ hr hb
    exact ⟨PairsIn.of_row (base := w.heap.size) (n := l.length + 1) (e := 103) (by rw [pairsV_append]; exact hr) hN, hb⟩
  cases ao with
  | some b =>
    have holds : ∀ j u, (pairsV l)[j]? = some u → w.cell? (b.add j) = some u := by
      rcases hp with ⟨rfl, _⟩ | ⟨b', o, cap', h, _, _, _, h5⟩
      · intro j u hu; cases hu
      · injection h with h
        injection h with h
        subst h
        intro j u hu
        have := h5 j u hu
        rwa [show (⟨b', o, none⟩ : Addr).add j = ⟨b', o + j, none⟩ from Addr.add_lit _ _ _]
    obtain ⟨v', w', e, hr, hg⟩ := run_append_arg_grows (P := Tryz.prog) w 49 ty 103 i _ 2 16 Tryz.underlying49 hi hz hsz hby rfl (by decide) b l.length l.length (pairsV l) (pairsV_len l) holds ad 1 c [.int .u64 p.1, .int .u64 p.2] rfl hn (by omega) (by unfold maxLen; omega) (by omega)
    obtain ⟨a1, a2⟩ := fin v' w' none hr (grown_none_below hg)
    exact ⟨v', w', e, a1, a2⟩
  | none =>
    have hl0 : l = [] := by
      rcases hp with ⟨h, _⟩ | ⟨b', o, cap', h, _⟩
      · exact h
      · injection h with h; cases h
    subst hl0
    obtain ⟨v', w', e, hr, hg, _⟩ := run_append_own (P := Tryz.prog) w w.heap.size 49 ty 103 i _ 2 16 Tryz.underlying49 hi hz hsz hby rfl (by decide) (.slice none 0 0) 0 [] (World.ownsRow_nil _ _ _ _) ad 1 c [.int .u64 p.1, .int .u64 p.2] rfl hn (by intro u hu; simp at hu; rcases hu with rfl | rfl <;> rfl) (by unfold maxLen; omega) (by omega) (Nat.le_refl _)
    obtain ⟨a1, a2⟩ := fin v' w' none hr (grown_none_below hg)
    exact ⟨v', w', e, a1, a2⟩
end Go.Proofs.YtccmjljlfgbicaaGreat

