/- Contract of a scan's judging. Printed by scnj.py. -/
import Derived.Test.YtccmjljlfgbicaaGreatSq
import Derived.Test.YtccmjljlfgbicaaGreatZScnA
import Derived.Test.YtccmjljlfgbicaaGreatZScnF
import Derived.Laws.CopyOwn
namespace Go.Proofs.YtccmjljlfgbicaaGreat
open Go.ChangeShapes Go.WideShapes Go.ChangeAt Go.RowKit

def St.judgeL (s : St) (c : GCall) (node v : Int) (l : List (Int × Int)) : List (Int × Int) :=
  if v = 1 ∧ c.key ≤ s.key node ∧ s.key node ≤ c.val ∧ freshP l (s.key node) = true then l ++ [((s.key node), (s.call (s.carried node)).val)] else l

theorem pairsinfo : (Tryz.prog.info? 49).map (fun i => (i.zero, i.size, i.bytes)) = some (some (.slice none 0 0), 1, 24) := by kernel_rfl
theorem PairsIn.cap {w : World} {N : Nat → Prop} {ao : Option Addr} {n cap : Nat} {l : List (Int × Int)} (h : PairsIn w N (.slice ao n cap) l) : n ≤ cap := by
  rcases h with ⟨_, a, c, e⟩ | ⟨_, _, c, e, _, h2, _⟩
  · injection e with _ e1 e2; omega
  · injection e with _ e1 e2; omega
theorem ListsIn.one {w : World} {N : Nat → Prop} {lb lo lc : Nat} {l : List (Int × Int)} (h : ListsIn w N (.slice (some ⟨lb, lo, none⟩) 1 lc) [l]) : ∃ ao cap, w.cell? ⟨lb, lo, none⟩ = some (.slice ao l.length cap) ∧ PairsIn w N (.slice ao l.length cap) l := by
  rcases h with ⟨e, _⟩ | ⟨b, o, c, e, _, _, _, h5⟩
  · cases e
  · injection e with e
    injection e with e
    injection e with e1 e2
    subst e1; subst e2
    obtain ⟨u, hu, hp⟩ := h5 0 l rfl
    obtain ⟨ao, cap, rfl⟩ := hp.form
    exact ⟨ao, cap, hu, hp⟩
theorem ListsIn.form1 {w : World} {N : Nat → Prop} {lv : Value} {l : List (Int × Int)} (h : ListsIn w N lv [l]) : ∃ lb lo lc, lv = .slice (some ⟨lb, lo, none⟩) 1 lc := by
  rcases h with ⟨e, _⟩ | ⟨b, o, c, e, _⟩
  · cases e
  · exact ⟨b, o, c, e⟩

structure JEnd (k : Blks) (b : Nat) (N : Nat → Prop) (pv : Value) (y : Scn) (w w' : World) : Prop where
  out : ∃ lv, At w' b 53 (y.cells lv pv) ∧ ListsIn w' N lv y.lists ∧ Only (OwnX k b) w w'

set_option maxRecDepth 100000 in
set_option maxHeartbeats 40000000 in
theorem sjudge_any {k : Blks} {s : St} (c : GCall) (phase node next : Int) (dn0 : Bool) (er : Int) (rd : Bool) (prs l : List (Int × Int)) {N : Nat → Prop} {lv pv : Value} (b : Nat) (w : World) (h : Holds k s w) (hb : Out k b) (hx : At w b 53 (Scn.cells ⟨c, phase, 0, node, next, [l], dn0, er, rd, prs⟩ lv pv)) (hI : ListsIn w N lv [l]) (hl : l.length ≤ 100000) (hN : ∀ b', w.heap.size ≤ b' → N b') (hNb : ¬ N b) (hNo : ∀ b', N b' → ¬ Own k b') :
    Calls Tryz.prog 72 #[.pointer (some ⟨b, 0, none⟩), .pointer (some ⟨k.bw, 0, none⟩)] w fun e w' => e = .returned (.tuple #[]) ∧ Holds k (s.load (s.wordAt (s.carried node))) w' ∧ JEnd k b N pv ⟨c, phase, 0, node, next, [s.judgeL c node (s.peek (s.wordAt (s.carried node))) l], dn0, er, rd, prs⟩ w w' := by
  obtain ⟨-, -, g6, gl⟩ := h.wfacts
  obtain ⟨lb, lo, lc, rfl⟩ := hI.form1
  have HH := Lib.hid h
  have HB := Lib.hid hb
  have HI := Lib.hid hI
  have HN := Lib.hid hN
  have HNB := Lib.hid hNb
  have HNO := Lib.hid hNo
  have HLL := Lib.hid hl
  have x6 : w.cell? ⟨b, 6, none⟩ = some (.int .i64 node) := hx.cell 6
  clear h hb hI hl hN hNb hNo
  go_enter Tryz.func72, Tryz.ntmps72
  go_upto_region 0 with fail
  refine wp_region_J (l := [_, _, _, _, _, _, _, _, _, _]) (QG (fun j v => match j with | 0 => v = .pointer (some ⟨k.bw, 0, none⟩) | 1 => v = .pointer (some ⟨k.bw, 0, none⟩) | 2 => v = .pointer (some ⟨k.bw, 6, none⟩) | 3 => v = .pointer (some ⟨k.bb, 0, none⟩) | 4 => v = .pointer (some ⟨b, 0, none⟩) | 5 => v = .pointer (some ⟨b, 0, none⟩) | 6 => v = .pointer (some ⟨b, 6, none⟩) | 7 => v = .int .i64 node | 8 => v = .int .i64 (s.carried node) | 9 => v = .int .i64 (s.carried node) | _ => True) w) (by kernel_rfl) (by kernel_rfl) (fun us => QG.start us) ⟨?_, ?_, ?_, ?_, ?_, ?_, ?_, ?_, ?_, ?_, trivial⟩ ?_
  · intro dn us w6 A hev hy hG hdn hdep K hK
    have e0 : A.eval (.tmp 1) = .pointer (some ⟨k.bw, 0, none⟩) := by rw [hev]; rfl
    rw [if_pos (by rfl)]; unfold Oper.wp execOp; generalize A.eval = ev at e0 ⊢; go_simp; exact hK _ _ (hG.first (by first | rfl | (simp; done) | (simp; omega) | (simp; assumption)))
  · intro dn us w6 A hev hy hG hdn hdep K hK
    have e0 : A.eval (.tmp 12) = .pointer (some ⟨k.bw, 0, none⟩) := by rw [hev]; exact hG.pre 0 (dm 0 hdep rfl)
    rw [if_pos (by rfl)]; unfold Oper.wp execOp; generalize A.eval = ev at e0 ⊢; go_simp; exact hK _ _ (hG.first (by first | rfl | (simp; done) | (simp; omega) | (simp; assumption)))
  · intro dn us w6 A hev hy hG hdn hdep K hK
    have e0 : A.eval (.tmp 13) = .pointer (some ⟨k.bw, 0, none⟩) := by rw [hev]; exact hG.pre 1 (dm 1 hdep rfl)
    rw [if_pos (by rfl)]; unfold Oper.wp execOp; generalize A.eval = ev at e0 ⊢; go_simp; exact hK _ _ (hG.first (by first | rfl | (simp; done) | (simp; omega) | (simp; assumption)))
  · intro dn us w6 A hev hy hG hdn hdep K hK
    have e0 : A.eval (.tmp 14) = .pointer (some ⟨k.bw, 6, none⟩) := by rw [hev]; exact hG.pre 2 (dm 2 hdep rfl)
    have cc0 : w6.cell? ⟨k.bw, 6, none⟩ = some (.pointer (some ⟨k.bb, 0, none⟩)) := by rw [hG.below.cell (World.block_lt_of_cell? _ _ g6)]; exact g6
    rw [if_pos (by rfl)]; unfold Oper.wp execOp; generalize A.eval = ev at e0 ⊢; go_simp; exact hK _ _ (hG.first (by first | rfl | (simp; done) | (simp; omega) | (simp; assumption)))
  · intro dn us w6 A hev hy hG hdn hdep K hK
    have e0 : A.eval (.tmp 0) = .pointer (some ⟨b, 0, none⟩) := by rw [hev]; rfl
    rw [if_pos (by rfl)]; unfold Oper.wp execOp; generalize A.eval = ev at e0 ⊢; go_simp; exact hK _ _ (hG.first (by first | rfl | (simp; done) | (simp; omega) | (simp; assumption)))
  · intro dn us w6 A hev hy hG hdn hdep K hK
    have e0 : A.eval (.tmp 16) = .pointer (some ⟨b, 0, none⟩) := by rw [hev]; exact hG.pre 4 (dm 4 hdep rfl)
    rw [if_pos (by rfl)]; unfold Oper.wp execOp; generalize A.eval = ev at e0 ⊢; go_simp; exact hK _ _ (hG.first (by first | rfl | (simp; done) | (simp; omega) | (simp; assumption)))
  · intro dn us w6 A hev hy hG hdn hdep K hK
    have e0 : A.eval (.tmp 17) = .pointer (some ⟨b, 0, none⟩) := by rw [hev]; exact hG.pre 5 (dm 5 hdep rfl)
    rw [if_pos (by rfl)]; unfold Oper.wp execOp; generalize A.eval = ev at e0 ⊢; go_simp; exact hK _ _ (hG.first (by first | rfl | (simp; done) | (simp; omega) | (simp; assumption)))
  · intro dn us w6 A hev hy hG hdn hdep K hK
    have e0 : A.eval (.tmp 18) = .pointer (some ⟨b, 6, none⟩) := by rw [hev]; exact hG.pre 6 (dm 6 hdep rfl)
    have cc0 : w6.cell? ⟨b, 6, none⟩ = some (.int .i64 node) := by rw [hG.below.cell (World.block_lt_of_cell? _ _ x6)]; exact x6
    rw [if_pos (by rfl)]; unfold Oper.wp execOp; generalize A.eval = ev at e0 ⊢; go_simp; exact hK _ _ (hG.first (by first | rfl | (simp; done) | (simp; omega) | (simp; assumption)))
  · intro dn us w6 A hev hy hG hdn hdep K hK
    have e0 : A.eval (.tmp 15) = .pointer (some ⟨k.bb, 0, none⟩) := by rw [hev]; exact hG.pre 3 (dm 3 hdep rfl)
    have e1 : A.eval (.tmp 19) = .int .i64 node := by rw [hev]; exact hG.pre 7 (dm 7 hdep rfl)
    have ef : A.eval (.func 38) = .func (.func 38) #[] #[] := by rw [hev]; rfl
    rw [if_pos (by rfl)]; unfold Oper.wp execOp; generalize A.eval = ev at e0 e1 ef ⊢; go_simp; refine (carried_any node _ (HH.out.below hG.below)).mono ?_
    rintro e wq ⟨rfl, rfl⟩
    exact hK _ _ (hG.first rfl)
  · intro dn us w6 A hev hy hG hdn hdep K hK
    have e0 : A.eval (.tmp 20) = .int .i64 (s.carried node) := by rw [hev]; exact hG.pre 8 (dm 8 hdep rfl)
    rw [if_pos (by rfl)]; unfold Oper.wp execOp; generalize A.eval = ev at e0 ⊢; go_simp; exact hK _ _ (hG.first (by first | rfl | (simp; done) | (simp; omega) | (simp; assumption)))
  intro dn us w1 hG hall
  have u9 : us 9 = .int .i64 (s.carried node) := hG.pre 9 (hall 9 (by decide))
  have D1 := hG.below
  simp only [fillA, fillT, Nat.reduceAdd, List.setIfInBounds_toArray, List.set_cons_zero, List.set_cons_succ, u9]
  clear hG hall u9
  have A1 := hx.below' D1
  have H1 := Lib.hid (HH.out.below D1)
  have g6 : w1.cell? ⟨k.bw, 6, none⟩ = some (.pointer (some ⟨k.bb, 0, none⟩)) := by rw [D1.cell gl]; exact g6
  have x6 : w1.cell? ⟨b, 6, none⟩ = some (.int .i64 node) := A1.cell 6
  have M1 := Lib.hid (show ∀ (w w' : World) (v : Value), (∃ g, v = .pointer (some ⟨g, 0, none⟩) ∧ w1.heap.size ≤ g ∧ At w g 26 #[.int .u64 0]) → Below w.heap.size w w' → (∃ g, v = .pointer (some ⟨g, 0, none⟩) ∧ w1.heap.size ≤ g ∧ At w' g 26 #[.int .u64 0]) from fun _ _ _ ⟨g, a, b, h⟩ hb => ⟨g, a, b, h.below' hb⟩)
  have M2 := Lib.hid (show ∀ (w w' : World) (v : Value), True → Below w.heap.size w w' → True from fun _ _ _ _ _ => trivial)
  go_upto_region 1 with fail
  refine wp_region_C (l := [_, _, _, _, _, _, _, _, _, _, _]) (LG 10 (FL (fun j v => match j with | 0 => v = .pointer (some ⟨k.bw, 0, none⟩) | 1 => v = .pointer (some ⟨k.bw, 0, none⟩) | 2 => v = .pointer (some ⟨k.bw, 6, none⟩) | 3 => v = .pointer (some ⟨k.bb, 0, none⟩) | 4 => v = .pointer (some ⟨b, 0, none⟩) | 5 => v = .pointer (some ⟨b, 0, none⟩) | 6 => v = .pointer (some ⟨b, 6, none⟩) | 7 => v = .int .i64 node | 8 => v = .int .u64 (s.key node) | _ => True) 9 99 (fun w v => ∃ g, v = .pointer (some ⟨g, 0, none⟩) ∧ w1.heap.size ≤ g ∧ At w g 26 #[.int .u64 0]) (fun _ _ => True)) w1 (fun us w => ∃ g, us 9 = .pointer (some ⟨g, 0, none⟩) ∧ w1.heap.size ≤ g ∧ At w g 26 #[.int .u64 (s.key node)] ∧ Below w1.heap.size w1 w)) (by kernel_rfl) (by kernel_rfl) (fun us => LG.start us) ⟨?_, ?_, ?_, ?_, ?_, ?_, ?_, ?_, ?_, ?_, ?_, trivial⟩ ?_
  · intro dn us w6 A hev hy hG hcl hdn hdep K hK
    have e0 : A.eval (.tmp 1) = .pointer (some ⟨k.bw, 0, none⟩) := by rw [hev]; rfl
    rw [if_pos (by rfl)]; unfold Oper.wp execOp; generalize A.eval = ev at e0 ⊢; go_simp; exact hK _ _ (hG.plain hdn (by decide) (by decide) (by decide) (by first | rfl | (simp; done) | (simp; omega) | (simp; assumption)))
  · intro dn us w6 A hev hy hG hcl hdn hdep K hK
    have d0 : dn 0 = true := allD_mem hdep (by decide)
    have e0 : A.eval (.tmp 21) = .pointer (some ⟨k.bw, 0, none⟩) := by rw [hev]; exact hG.val hdn (by decide) d0
    rw [if_pos (by rfl)]; unfold Oper.wp execOp; generalize A.eval = ev at e0 ⊢; go_simp; exact hK _ _ (hG.plain hdn (by decide) (by decide) (by decide) (by first | rfl | (simp; done) | (simp; omega) | (simp; assumption)))
  · intro dn us w6 A hev hy hG hcl hdn hdep K hK
    have d1 : dn 1 = true := allD_mem hdep (by decide)
    have e0 : A.eval (.tmp 22) = .pointer (some ⟨k.bw, 0, none⟩) := by rw [hev]; exact hG.val hdn (by decide) d1
    rw [if_pos (by rfl)]; unfold Oper.wp execOp; generalize A.eval = ev at e0 ⊢; go_simp; exact hK _ _ (hG.plain hdn (by decide) (by decide) (by decide) (by first | rfl | (simp; done) | (simp; omega) | (simp; assumption)))
  · intro dn us w6 A hev hy hG hcl hdn hdep K hK
    have d2 : dn 2 = true := allD_mem hdep (by decide)
    have e0 : A.eval (.tmp 23) = .pointer (some ⟨k.bw, 6, none⟩) := by rw [hev]; exact hG.val hdn (by decide) d2
    have hb6 := hG.below (hG.not hdn (by decide))
    have cc0 : w6.cell? ⟨k.bw, 6, none⟩ = some (.pointer (some ⟨k.bb, 0, none⟩)) := by rw [hb6.cell (World.block_lt_of_cell? _ _ g6)]; exact g6
    rw [if_pos (by rfl)]; unfold Oper.wp execOp; generalize A.eval = ev at e0 ⊢; go_simp; exact hK _ _ (hG.plain hdn (by decide) (by decide) (by decide) (by first | rfl | (simp; done) | (simp; omega) | (simp; assumption)))
  · intro dn us w6 A hev hy hG hcl hdn hdep K hK
    have e0 : A.eval (.tmp 0) = .pointer (some ⟨b, 0, none⟩) := by rw [hev]; rfl
    rw [if_pos (by rfl)]; unfold Oper.wp execOp; generalize A.eval = ev at e0 ⊢; go_simp; exact hK _ _ (hG.plain hdn (by decide) (by decide) (by decide) (by first | rfl | (simp; done) | (simp; omega) | (simp; assumption)))
  · intro dn us w6 A hev hy hG hcl hdn hdep K hK
    have d4 : dn 4 = true := allD_mem hdep (by decide)
    have e0 : A.eval (.tmp 25) = .pointer (some ⟨b, 0, none⟩) := by rw [hev]; exact hG.val hdn (by decide) d4
    rw [if_pos (by rfl)]; unfold Oper.wp execOp; generalize A.eval = ev at e0 ⊢; go_simp; exact hK _ _ (hG.plain hdn (by decide) (by decide) (by decide) (by first | rfl | (simp; done) | (simp; omega) | (simp; assumption)))
  · intro dn us w6 A hev hy hG hcl hdn hdep K hK
    have d5 : dn 5 = true := allD_mem hdep (by decide)
    have e0 : A.eval (.tmp 26) = .pointer (some ⟨b, 0, none⟩) := by rw [hev]; exact hG.val hdn (by decide) d5
    rw [if_pos (by rfl)]; unfold Oper.wp execOp; generalize A.eval = ev at e0 ⊢; go_simp; exact hK _ _ (hG.plain hdn (by decide) (by decide) (by decide) (by first | rfl | (simp; done) | (simp; omega) | (simp; assumption)))
  · intro dn us w6 A hev hy hG hcl hdn hdep K hK
    have d6 : dn 6 = true := allD_mem hdep (by decide)
    have e0 : A.eval (.tmp 27) = .pointer (some ⟨b, 6, none⟩) := by rw [hev]; exact hG.val hdn (by decide) d6
    have hb6 := hG.below (hG.not hdn (by decide))
    have cc0 : w6.cell? ⟨b, 6, none⟩ = some (.int .i64 node) := by rw [hb6.cell (World.block_lt_of_cell? _ _ x6)]; exact x6
    rw [if_pos (by rfl)]; unfold Oper.wp execOp; generalize A.eval = ev at e0 ⊢; go_simp; exact hK _ _ (hG.plain hdn (by decide) (by decide) (by decide) (by first | rfl | (simp; done) | (simp; omega) | (simp; assumption)))
  · intro dn us w6 A hev hy hG hcl hdn hdep K hK
    have d3 : dn 3 = true := allD_mem hdep (by decide)
    have d7 : dn 7 = true := allD_mem hdep (by decide)
    have e0 : A.eval (.tmp 24) = .pointer (some ⟨k.bb, 0, none⟩) := by rw [hev]; exact hG.val hdn (by decide) d3
    have e1 : A.eval (.tmp 28) = .int .i64 node := by rw [hev]; exact hG.val hdn (by decide) d7
    have ef : A.eval (.func 36) = .func (.func 36) #[] #[] := by rw [hev]; rfl
    rw [if_pos (by rfl)]; unfold Oper.wp execOp; generalize A.eval = ev at e0 e1 ef ⊢; go_simp; refine (key_any node _ (H1.out.below (hG.below (hG.not hdn (by decide))))).mono ?_
    rintro e wq ⟨rfl, hb⟩
    exact hK _ _ (hG.quiet hdn (by decide) (by decide) (by decide) M1.out M2.out rfl hb)
  · intro dn us w6 A hev hy hG hcl hdn hdep K hK
    have hb6 := hG.below (hG.not hdn (by decide))
    rw [if_pos (by rfl)]; unfold Oper.wp execOp; go_simp; exact hK _ _ (hG.sp1 hdn (by decide) (by decide) M1.out M2.out trivial ⟨_, rfl, hb6.size, At.new _ _ _⟩ ((Below.refl _ _).alloc (Nat.le_refl _) _))
  · intro dn us w6 A hev hy hG hcl hdn hdep K hK
    have d8 : dn 8 = true := allD_mem hdep (by decide)
    have d9 : dn 9 = true := allD_mem hdep (by decide)
    have hall : ∀ j, j < 10 → dn j = true := by
      have d3 : dn 3 = true := allD_mem (hcl 8 d8) (by decide)
      have d7 : dn 7 = true := allD_mem (hcl 8 d8) (by decide)
      have d2 : dn 2 = true := allD_mem (hcl 3 d3) (by decide)
      have d1 : dn 1 = true := allD_mem (hcl 2 d2) (by decide)
      have d0 : dn 0 = true := allD_mem (hcl 1 d1) (by decide)
      have d6 : dn 6 = true := allD_mem (hcl 7 d7) (by decide)
      have d5 : dn 5 = true := allD_mem (hcl 6 d6) (by decide)
      have d4 : dn 4 = true := allD_mem (hcl 5 d5) (by decide)
      intro j hj
      match j, hj with
      | 0, _ => exact d0
      | 1, _ => exact d1
      | 2, _ => exact d2
      | 3, _ => exact d3
      | 4, _ => exact d4
      | 5, _ => exact d5
      | 6, _ => exact d6
      | 7, _ => exact d7
      | 8, _ => exact d8
      | 9, _ => exact d9
    obtain ⟨g, hg, hge, hA⟩ := (hG.pre hdn 9 d9).2.1 rfl
    have e0 : A.eval (.tmp 5) = .pointer (some ⟨g, 0, none⟩) := by rw [hev]; exact hg
    have e1 : A.eval (.tmp 29) = .int .u64 (s.key node) := by rw [hev]; exact hG.valS hdn d8
    refine step_list (wpl_st rfl 26 (.tmp 5) (.tmp 29) rfl #[.int .u64 (s.key node)] e0 _ e1 hA (by kernel_rfl) rfl rfl rfl fun w7 A7 O7 => ⟨rfl, ?_⟩)
    exact hK _ _ (LG.stored hall ⟨g, by rw [updN_ne (by decide)]; exact hg, hge, A7, (hG.below hdn).trans (O7.below (hG.below hdn).size fun j hj e => by have e' : j = g := e; omega)⟩)
  intro dn us w2 hG hall
  obtain ⟨g5, u9, hg5, A5, D2⟩ := hG.st (hall 10 (by decide))
  simp only [fillA, fillT, Nat.reduceAdd, List.setIfInBounds_toArray, List.set_cons_zero, List.set_cons_succ, u9]
  clear hG hall u9 M1 M2 g6 x6
  have A2 := A1.below' D2
  have H2 := Lib.hid (H1.out.below D2)
  have nO5 : ¬ Own k g5 := H1.out.fresh hg5
  have ne5 : b ≠ g5 := by have := A1.lt; omega
  go_upto_region 4 with (go_at_call 37; refine (wword_any (s.carried node) _ H2.out).mono ?_; rintro e w3 ⟨rfl, H3, O3⟩)
  have HH3 := Lib.hid H3
  have A3 := A2.only O3 HB.out.1
  have K3 := A5.only O3 nO5
  have HI3 := Lib.hid (((HI.out.below D1).below D2).only O3 HNO.out)
  have O3 : Only (OwnX k b) w w3 := ((Only.ofBelow _ D1).thenBelow D2).trans (onlyX O3)
  obtain ⟨ao, cap, cu, hpu⟩ := HI3.out.one
  have HPU3 := Lib.hid hpu
  have cu3 := cu
  have CU3 := Lib.hid cu3
  clear cu3
  have HCAP := Lib.hid hpu.cap
  have y5 : w3.cell? ⟨b, 5, none⟩ = some (.int .i64 0) := A3.cell 5
  have y8 : w3.cell? ⟨b, 8, none⟩ = some (.slice (some ⟨lb, lo, none⟩) 1 lc) := A3.cell 8
  clear H3 A1 A2 A5 D1 D2 hpu hx
  generalize hiv : (s.peek (s.wordAt (s.carried node)) == 1) = iv at *
  have HIV := Lib.hid hiv
  clear hiv
  refine wp_region_J (l := [_, _, _, _, _, _, _, _, _, _, _, _, _, _, _, _, _]) (QG (fun j v => match j with | 0 => v = .pointer (some ⟨b, 0, none⟩) | 1 => v = .pointer (some ⟨b, 0, none⟩) | 2 => v = .pointer (some ⟨b, 5, none⟩) | 3 => v = .int .i64 0 | 4 => v = .bool false | 5 => v = .bool false | 6 => v = .pointer (some ⟨b, 0, none⟩) | 7 => v = .pointer (some ⟨b, 0, none⟩) | 8 => v = .pointer (some ⟨b, 5, none⟩) | 9 => v = .int .i64 0 | 10 => v = .pointer (some ⟨b, 0, none⟩) | 11 => v = .pointer (some ⟨b, 0, none⟩) | 12 => v = .pointer (some ⟨b, 8, none⟩) | 13 => v = .slice (some ⟨lb, lo, none⟩) 1 lc | 14 => v = .int .i64 1 | 15 => v = .bool false | 16 => v = .bool false | _ => True) w3) (by kernel_rfl) (by kernel_rfl) (fun us => QG.start us) ⟨?_, ?_, ?_, ?_, ?_, ?_, ?_, ?_, ?_, ?_, ?_, ?_, ?_, ?_, ?_, ?_, ?_, trivial⟩ ?_
  · intro dn us w6 A hev hy hG hdn hdep K hK
    have e0 : A.eval (.tmp 0) = .pointer (some ⟨b, 0, none⟩) := by rw [hev]; rfl
    rw [if_pos (by rfl)]; unfold Oper.wp execOp; generalize A.eval = ev at e0 ⊢; go_simp; exact hK _ _ (hG.first (by first | rfl | (simp; done) | (simp; omega) | (simp; assumption)))
  · intro dn us w6 A hev hy hG hdn hdep K hK
    have e0 : A.eval (.tmp 35) = .pointer (some ⟨b, 0, none⟩) := by rw [hev]; exact hG.pre 0 (dm 0 hdep rfl)
    rw [if_pos (by rfl)]; unfold Oper.wp execOp; generalize A.eval = ev at e0 ⊢; go_simp; exact hK _ _ (hG.first (by first | rfl | (simp; done) | (simp; omega) | (simp; assumption)))
  · intro dn us w6 A hev hy hG hdn hdep K hK
    have e0 : A.eval (.tmp 36) = .pointer (some ⟨b, 0, none⟩) := by rw [hev]; exact hG.pre 1 (dm 1 hdep rfl)
    rw [if_pos (by rfl)]; unfold Oper.wp execOp; generalize A.eval = ev at e0 ⊢; go_simp; exact hK _ _ (hG.first (by first | rfl | (simp; done) | (simp; omega) | (simp; assumption)))
  · intro dn us w6 A hev hy hG hdn hdep K hK
    have e0 : A.eval (.tmp 37) = .pointer (some ⟨b, 5, none⟩) := by rw [hev]; exact hG.pre 2 (dm 2 hdep rfl)
    have cc0 : w6.cell? ⟨b, 5, none⟩ = some (.int .i64 0) := by rw [hG.below.cell (World.block_lt_of_cell? _ _ y5)]; exact y5
    rw [if_pos (by rfl)]; unfold Oper.wp execOp; generalize A.eval = ev at e0 ⊢; go_simp; exact hK _ _ (hG.first (by first | rfl | (simp; done) | (simp; omega) | (simp; assumption)))
  · intro dn us w6 A hev hy hG hdn hdep K hK
    have e0 : A.eval (.tmp 38) = .int .i64 0 := by rw [hev]; exact hG.pre 3 (dm 3 hdep rfl)
    have e1 : A.eval (.const (.int .i64 0)) = .int .i64 0 := by rw [hev]; rfl
    rw [if_pos (by rfl)]; unfold Oper.wp execOp; generalize A.eval = ev at e0 e1 ⊢; go_simp; exact hK _ _ (hG.first (by first | rfl | (simp; done) | (simp; omega) | (simp; assumption)))
  · intro dn us w6 A hev hy hG hdn hdep K hK
    have e0 : A.eval (.tmp 39) = .bool false := by rw [hev]; exact hG.pre 4 (dm 4 hdep rfl)
    rw [if_pos (by rfl)]; unfold Oper.wp execOp; generalize A.eval = ev at e0 ⊢; go_simp; exact hK _ _ (hG.first (by first | rfl | (simp; done) | (simp; omega) | (simp; assumption)))
  · intro dn us w6 A hev hy hG hdn hdep K hK
    have e0 : A.eval (.tmp 0) = .pointer (some ⟨b, 0, none⟩) := by rw [hev]; rfl
    have hg : us 5 = .bool false := hG.pre 5 (dm 5 hdep rfl)
    rw [if_pos (by rw [hy]; exact yb hg)]; unfold Oper.wp execOp; generalize A.eval = ev at e0 ⊢; go_simp; exact hK _ _ (hG.first (by first | rfl | (simp; done) | (simp; omega) | (simp; assumption)))
  · intro dn us w6 A hev hy hG hdn hdep K hK
    have e0 : A.eval (.tmp 41) = .pointer (some ⟨b, 0, none⟩) := by rw [hev]; exact hG.pre 6 (dm 6 hdep rfl)
    have hg : us 5 = .bool false := hG.pre 5 (dm 5 hdep rfl)
    rw [if_pos (by rw [hy]; exact yb hg)]; unfold Oper.wp execOp; generalize A.eval = ev at e0 ⊢; go_simp; exact hK _ _ (hG.first (by first | rfl | (simp; done) | (simp; omega) | (simp; assumption)))
  · intro dn us w6 A hev hy hG hdn hdep K hK
    have e0 : A.eval (.tmp 42) = .pointer (some ⟨b, 0, none⟩) := by rw [hev]; exact hG.pre 7 (dm 7 hdep rfl)
    have hg : us 5 = .bool false := hG.pre 5 (dm 5 hdep rfl)
    rw [if_pos (by rw [hy]; exact yb hg)]; unfold Oper.wp execOp; generalize A.eval = ev at e0 ⊢; go_simp; exact hK _ _ (hG.first (by first | rfl | (simp; done) | (simp; omega) | (simp; assumption)))
  · intro dn us w6 A hev hy hG hdn hdep K hK
    have e0 : A.eval (.tmp 43) = .pointer (some ⟨b, 5, none⟩) := by rw [hev]; exact hG.pre 8 (dm 8 hdep rfl)
    have cc0 : w6.cell? ⟨b, 5, none⟩ = some (.int .i64 0) := by rw [hG.below.cell (World.block_lt_of_cell? _ _ y5)]; exact y5
    have hg : us 5 = .bool false := hG.pre 5 (dm 5 hdep rfl)
    rw [if_pos (by rw [hy]; exact yb hg)]; unfold Oper.wp execOp; generalize A.eval = ev at e0 ⊢; go_simp; exact hK _ _ (hG.first (by first | rfl | (simp; done) | (simp; omega) | (simp; assumption)))
  · intro dn us w6 A hev hy hG hdn hdep K hK
    have e0 : A.eval (.tmp 0) = .pointer (some ⟨b, 0, none⟩) := by rw [hev]; rfl
    have hg : us 5 = .bool false := hG.pre 5 (dm 5 hdep rfl)
    rw [if_pos (by rw [hy]; exact yb hg)]; unfold Oper.wp execOp; generalize A.eval = ev at e0 ⊢; go_simp; exact hK _ _ (hG.first (by first | rfl | (simp; done) | (simp; omega) | (simp; assumption)))
  · intro dn us w6 A hev hy hG hdn hdep K hK
    have e0 : A.eval (.tmp 45) = .pointer (some ⟨b, 0, none⟩) := by rw [hev]; exact hG.pre 10 (dm 10 hdep rfl)
    have hg : us 5 = .bool false := hG.pre 5 (dm 5 hdep rfl)
    rw [if_pos (by rw [hy]; exact yb hg)]; unfold Oper.wp execOp; generalize A.eval = ev at e0 ⊢; go_simp; exact hK _ _ (hG.first (by first | rfl | (simp; done) | (simp; omega) | (simp; assumption)))
  · intro dn us w6 A hev hy hG hdn hdep K hK
    have e0 : A.eval (.tmp 46) = .pointer (some ⟨b, 0, none⟩) := by rw [hev]; exact hG.pre 11 (dm 11 hdep rfl)
    have hg : us 5 = .bool false := hG.pre 5 (dm 5 hdep rfl)
    rw [if_pos (by rw [hy]; exact yb hg)]; unfold Oper.wp execOp; generalize A.eval = ev at e0 ⊢; go_simp; exact hK _ _ (hG.first (by first | rfl | (simp; done) | (simp; omega) | (simp; assumption)))
  · intro dn us w6 A hev hy hG hdn hdep K hK
    have e0 : A.eval (.tmp 47) = .pointer (some ⟨b, 8, none⟩) := by rw [hev]; exact hG.pre 12 (dm 12 hdep rfl)
    have cc0 : w6.cell? ⟨b, 8, none⟩ = some (.slice (some ⟨lb, lo, none⟩) 1 lc) := by rw [hG.below.cell (World.block_lt_of_cell? _ _ y8)]; exact y8
    have hg : us 5 = .bool false := hG.pre 5 (dm 5 hdep rfl)
    rw [if_pos (by rw [hy]; exact yb hg)]; unfold Oper.wp execOp; generalize A.eval = ev at e0 ⊢; go_simp; exact hK _ _ (hG.first (by first | rfl | (simp; done) | (simp; omega) | (simp; assumption)))
  · intro dn us w6 A hev hy hG hdn hdep K hK
    have e0 : A.eval (.tmp 48) = .slice (some ⟨lb, lo, none⟩) 1 lc := by rw [hev]; exact hG.pre 13 (dm 13 hdep rfl)
    have hg : us 5 = .bool false := hG.pre 5 (dm 5 hdep rfl)
    rw [if_pos (by rw [hy]; exact yb hg)]; unfold Oper.wp execOp; generalize A.eval = ev at e0 ⊢; go_simp; exact hK _ _ (hG.first (by first | rfl | (simp; done) | (simp; omega) | (simp; assumption)))
  · intro dn us w6 A hev hy hG hdn hdep K hK
    have e0 : A.eval (.tmp 44) = .int .i64 0 := by rw [hev]; exact hG.pre 9 (dm 9 hdep rfl)
    have e1 : A.eval (.tmp 49) = .int .i64 1 := by rw [hev]; exact hG.pre 14 (dm 14 hdep rfl)
    have hg : us 5 = .bool false := hG.pre 5 (dm 5 hdep rfl)
    rw [if_pos (by rw [hy]; exact yb hg)]; unfold Oper.wp execOp; generalize A.eval = ev at e0 e1 ⊢; go_simp; exact hK _ _ (hG.first (by first | rfl | (simp; done) | (simp; omega) | (simp; assumption)))
  · intro dn us w6 A hev hy hG hdn hdep K hK
    have e0 : A.eval (.tmp 40) = .bool false := by rw [hev]; exact hG.pre 5 (dm 5 hdep rfl)
    have e1 : A.eval (.const (.bool true)) = .bool true := by rw [hev]; rfl
    have e2 : A.eval (.tmp 50) = .bool false := by rw [hev]; exact hG.pre 15 (dm 15 hdep rfl)
    rw [if_pos (by rfl)]; unfold Oper.wp execOp; generalize A.eval = ev at e0 e1 e2 ⊢; go_simp; exact hK _ _ (hG.first (by first | rfl | (simp; done) | (simp; omega) | (simp; assumption)))
  intro dn us w4 hG hall
  have u16 : us 16 = .bool false := hG.pre 16 (hall 16 (by decide))
  have D4 := hG.below
  simp only [fillA, fillT, Nat.reduceAdd, List.setIfInBounds_toArray, List.set_cons_zero, List.set_cons_succ, u16]
  clear hG hall u16
  have y5 : w4.cell? ⟨b, 5, none⟩ = some (.int .i64 0) := (A3.below' D4).cell 5
  have y8 : w4.cell? ⟨b, 8, none⟩ = some (.slice (some ⟨lb, lo, none⟩) 1 lc) := (A3.below' D4).cell 8
  have cu : w4.cell? ⟨lb, lo, none⟩ = some (.slice ao l.length cap) := by rw [D4.cell (World.block_lt_of_cell? _ _ cu)]; exact cu
  go_upto_region 5 with fail
  refine wp_region_J (l := [_, _, _, _, _, _, _, _, _, _, _]) (QG (fun j v => match j with | 0 => v = .pointer (some ⟨b, 0, none⟩) | 1 => v = .pointer (some ⟨b, 0, none⟩) | 2 => v = .pointer (some ⟨b, 8, none⟩) | 3 => v = .slice (some ⟨lb, lo, none⟩) 1 lc | 4 => v = .pointer (some ⟨b, 0, none⟩) | 5 => v = .pointer (some ⟨b, 0, none⟩) | 6 => v = .pointer (some ⟨b, 5, none⟩) | 7 => v = .int .i64 0 | 8 => v = .pointer (some ⟨lb, lo, none⟩) | 9 => v = .slice ao l.length cap | 10 => v = .slice ao l.length cap | _ => True) w4) (by kernel_rfl) (by kernel_rfl) (fun us => QG.start us) ⟨?_, ?_, ?_, ?_, ?_, ?_, ?_, ?_, ?_, ?_, ?_, trivial⟩ ?_
  · intro dn us w6 A hev hy hG hdn hdep K hK
    have e0 : A.eval (.tmp 0) = .pointer (some ⟨b, 0, none⟩) := by rw [hev]; rfl
    rw [if_pos (by rfl)]; unfold Oper.wp execOp; generalize A.eval = ev at e0 ⊢; go_simp; exact hK _ _ (hG.first (by first | rfl | (simp; done) | (simp; omega) | (simp; assumption)))
  · intro dn us w6 A hev hy hG hdn hdep K hK
    have e0 : A.eval (.tmp 52) = .pointer (some ⟨b, 0, none⟩) := by rw [hev]; exact hG.pre 0 (dm 0 hdep rfl)
    rw [if_pos (by rfl)]; unfold Oper.wp execOp; generalize A.eval = ev at e0 ⊢; go_simp; exact hK _ _ (hG.first (by first | rfl | (simp; done) | (simp; omega) | (simp; assumption)))
  · intro dn us w6 A hev hy hG hdn hdep K hK
    have e0 : A.eval (.tmp 53) = .pointer (some ⟨b, 0, none⟩) := by rw [hev]; exact hG.pre 1 (dm 1 hdep rfl)
    rw [if_pos (by rfl)]; unfold Oper.wp execOp; generalize A.eval = ev at e0 ⊢; go_simp; exact hK _ _ (hG.first (by first | rfl | (simp; done) | (simp; omega) | (simp; assumption)))
  · intro dn us w6 A hev hy hG hdn hdep K hK
    have e0 : A.eval (.tmp 54) = .pointer (some ⟨b, 8, none⟩) := by rw [hev]; exact hG.pre 2 (dm 2 hdep rfl)
    have cc0 : w6.cell? ⟨b, 8, none⟩ = some (.slice (some ⟨lb, lo, none⟩) 1 lc) := by rw [hG.below.cell (World.block_lt_of_cell? _ _ y8)]; exact y8
    rw [if_pos (by rfl)]; unfold Oper.wp execOp; generalize A.eval = ev at e0 ⊢; go_simp; exact hK _ _ (hG.first (by first | rfl | (simp; done) | (simp; omega) | (simp; assumption)))
  · intro dn us w6 A hev hy hG hdn hdep K hK
    have e0 : A.eval (.tmp 0) = .pointer (some ⟨b, 0, none⟩) := by rw [hev]; rfl
    rw [if_pos (by rfl)]; unfold Oper.wp execOp; generalize A.eval = ev at e0 ⊢; go_simp; exact hK _ _ (hG.first (by first | rfl | (simp; done) | (simp; omega) | (simp; assumption)))
  · intro dn us w6 A hev hy hG hdn hdep K hK
    have e0 : A.eval (.tmp 56) = .pointer (some ⟨b, 0, none⟩) := by rw [hev]; exact hG.pre 4 (dm 4 hdep rfl)
    rw [if_pos (by rfl)]; unfold Oper.wp execOp; generalize A.eval = ev at e0 ⊢; go_simp; exact hK _ _ (hG.first (by first | rfl | (simp; done) | (simp; omega) | (simp; assumption)))
  · intro dn us w6 A hev hy hG hdn hdep K hK
    have e0 : A.eval (.tmp 57) = .pointer (some ⟨b, 0, none⟩) := by rw [hev]; exact hG.pre 5 (dm 5 hdep rfl)
    rw [if_pos (by rfl)]; unfold Oper.wp execOp; generalize A.eval = ev at e0 ⊢; go_simp; exact hK _ _ (hG.first (by first | rfl | (simp; done) | (simp; omega) | (simp; assumption)))
  · intro dn us w6 A hev hy hG hdn hdep K hK
    have e0 : A.eval (.tmp 58) = .pointer (some ⟨b, 5, none⟩) := by rw [hev]; exact hG.pre 6 (dm 6 hdep rfl)
    have cc0 : w6.cell? ⟨b, 5, none⟩ = some (.int .i64 0) := by rw [hG.below.cell (World.block_lt_of_cell? _ _ y5)]; exact y5
    rw [if_pos (by rfl)]; unfold Oper.wp execOp; generalize A.eval = ev at e0 ⊢; go_simp; exact hK _ _ (hG.first (by first | rfl | (simp; done) | (simp; omega) | (simp; assumption)))
  · intro dn us w6 A hev hy hG hdn hdep K hK
    have e0 : A.eval (.tmp 55) = .slice (some ⟨lb, lo, none⟩) 1 lc := by rw [hev]; exact hG.pre 3 (dm 3 hdep rfl)
    have e1 : A.eval (.tmp 59) = .int .i64 0 := by rw [hev]; exact hG.pre 7 (dm 7 hdep rfl)
    rw [if_pos (by rfl)]; unfold Oper.wp execOp; generalize A.eval = ev at e0 e1 ⊢; go_simp; exact hK _ _ (hG.first (by first | rfl | (simp; done) | (simp; omega) | (simp; assumption)))
  · intro dn us w6 A hev hy hG hdn hdep K hK
    have e0 : A.eval (.tmp 60) = .pointer (some ⟨lb, lo, none⟩) := by rw [hev]; exact hG.pre 8 (dm 8 hdep rfl)
    have cc0 : w6.cell? ⟨lb, lo, none⟩ = some (.slice ao l.length cap) := by rw [hG.below.cell (World.block_lt_of_cell? _ _ cu)]; exact cu
    rw [if_pos (by rfl)]; unfold Oper.wp execOp; generalize A.eval = ev at e0 ⊢; go_simp; exact hK _ _ (hG.first (by first | rfl | (simp; done) | (simp; omega) | (simp; assumption)))
  · intro dn us w6 A hev hy hG hdn hdep K hK
    have e0 : A.eval (.tmp 61) = .slice ao l.length cap := by rw [hev]; exact hG.pre 9 (dm 9 hdep rfl)
    rw [if_pos (by rfl)]; unfold Oper.wp execOp; generalize A.eval = ev at e0 ⊢; go_simp; exact hK _ _ (hG.first (by first | rfl | (simp; done) | (simp; omega) | (simp; assumption)))
  intro dn us w5 hG hall
  have u10 : us 10 = .slice ao l.length cap := hG.pre 10 (hall 10 (by decide))
  have D5 := hG.below
  simp only [fillA, fillT, Nat.reduceAdd, List.setIfInBounds_toArray, List.set_cons_zero, List.set_cons_succ, u10]
  clear hG hall u10 y5 y8 cu
  have A5 := (A3.below' D4).below' D5
  have K5 := (K3.below' D4).below' D5
  have HPU := Lib.hid ((HPU3.out.below D4).below D5)
  have k5 : w5.cell? ⟨g5, 0, none⟩ = some (.int .u64 (s.key node)) := K5.cell 0
  have y1 : w5.cell? ⟨b, 1, none⟩ = some (.int .u64 c.key) := A5.cell 1
  have y2 : w5.cell? ⟨b, 2, none⟩ = some (.int .u64 c.val) := A5.cell 2
  go_upto_region 6 with fail
  cases iv with
  | false =>
    have HJ := Lib.hid (show s.judgeL c node (s.peek (s.wordAt (s.carried node))) l = l from if_neg (fun q => by have := HIV.out; rw [q.1] at this; cases this))
    refine wp_region_J (l := [_, _, _, _, _, _, _, _, _, _, _, _, _, _, _, _, _, _, _, _, _, _, _, _]) (QG (fun j v => match j with | 0 => v = .bool false | 1 => v = .bool false | 9 => v = .bool false | 10 => v = .bool false | 18 => v = .bool false | 19 => v = .bool false | 23 => v = .bool false | _ => True) w5) (by kernel_rfl) (by kernel_rfl) (fun us => QG.start us) ⟨?_, ?_, ?_, ?_, ?_, ?_, ?_, ?_, ?_, ?_, ?_, ?_, ?_, ?_, ?_, ?_, ?_, ?_, ?_, ?_, ?_, ?_, ?_, ?_, trivial⟩ ?_
    · intro dn us w6 A hev hy hG hdn hdep K hK
      have e0 : A.eval (.tmp 6) = .bool false := by rw [hev]; rfl
      rw [if_pos (by rfl)]; unfold Oper.wp execOp; generalize A.eval = ev at e0 ⊢; go_simp; exact hK _ _ (hG.first (by first | rfl | (simp; done) | (simp; omega) | (simp; assumption)))
    · intro dn us w6 A hev hy hG hdn hdep K hK
      have e0 : A.eval (.tmp 62) = .bool false := by rw [hev]; exact hG.pre 0 (dm 0 hdep rfl)
      rw [if_pos (by rfl)]; unfold Oper.wp execOp; generalize A.eval = ev at e0 ⊢; go_simp; exact hK _ _ (hG.first (by first | rfl | (simp; done) | (simp; omega) | (simp; assumption)))
    · intro dn us w6 A hev hy hG hdn hdep K hK
      have hg : us 1 = .bool false := hG.pre 1 (dm 1 hdep rfl)
      rw [if_neg (by rw [hy]; exact yn true hg rfl)]
      exact hK _ _ (hG.first trivial)
    · intro dn us w6 A hev hy hG hdn hdep K hK
      have hg : us 1 = .bool false := hG.pre 1 (dm 1 hdep rfl)
      rw [if_neg (by rw [hy]; exact yn true hg rfl)]
      exact hK _ _ (hG.first trivial)
    · intro dn us w6 A hev hy hG hdn hdep K hK
      have hg : us 1 = .bool false := hG.pre 1 (dm 1 hdep rfl)
      rw [if_neg (by rw [hy]; exact yn true hg rfl)]
      exact hK _ _ (hG.first trivial)
    · intro dn us w6 A hev hy hG hdn hdep K hK
      have hg : us 1 = .bool false := hG.pre 1 (dm 1 hdep rfl)
      rw [if_neg (by rw [hy]; exact yn true hg rfl)]
      exact hK _ _ (hG.first trivial)
    · intro dn us w6 A hev hy hG hdn hdep K hK
      have hg : us 1 = .bool false := hG.pre 1 (dm 1 hdep rfl)
      rw [if_neg (by rw [hy]; exact yn true hg rfl)]
      exact hK _ _ (hG.first trivial)
    · intro dn us w6 A hev hy hG hdn hdep K hK
      have hg : us 1 = .bool false := hG.pre 1 (dm 1 hdep rfl)
      rw [if_neg (by rw [hy]; exact yn true hg rfl)]
      exact hK _ _ (hG.first trivial)
    · intro dn us w6 A hev hy hG hdn hdep K hK
      have hg : us 1 = .bool false := hG.pre 1 (dm 1 hdep rfl)
      rw [if_neg (by rw [hy]; exact yn true hg rfl)]
      exact hK _ _ (hG.first trivial)
    · intro dn us w6 A hev hy hG hdn hdep K hK
      have e0 : A.eval (.tmp 63) = .bool false := by rw [hev]; exact hG.pre 1 (dm 1 hdep rfl)
      have e1 : A.eval (.const (.bool false)) = .bool false := by rw [hev]; rfl
      rw [if_pos (by rfl)]; unfold Oper.wp execOp; generalize A.eval = ev at e0 e1 ⊢; go_simp; exact hK _ _ (hG.first (by first | rfl | (simp; done) | (simp; omega) | (simp; assumption)))
    · intro dn us w6 A hev hy hG hdn hdep K hK
      have e0 : A.eval (.tmp 71) = .bool false := by rw [hev]; exact hG.pre 9 (dm 9 hdep rfl)
      rw [if_pos (by rfl)]; unfold Oper.wp execOp; generalize A.eval = ev at e0 ⊢; go_simp; exact hK _ _ (hG.first (by first | rfl | (simp; done) | (simp; omega) | (simp; assumption)))
    · intro dn us w6 A hev hy hG hdn hdep K hK
      have hg : us 10 = .bool false := hG.pre 10 (dm 10 hdep rfl)
      rw [if_neg (by rw [hy]; exact yn true hg rfl)]
      exact hK _ _ (hG.first trivial)
    · intro dn us w6 A hev hy hG hdn hdep K hK
      have hg : us 10 = .bool false := hG.pre 10 (dm 10 hdep rfl)
      rw [if_neg (by rw [hy]; exact yn true hg rfl)]
      exact hK _ _ (hG.first trivial)
    · intro dn us w6 A hev hy hG hdn hdep K hK
      have hg : us 10 = .bool false := hG.pre 10 (dm 10 hdep rfl)
      rw [if_neg (by rw [hy]; exact yn true hg rfl)]
      exact hK _ _ (hG.first trivial)
    · intro dn us w6 A hev hy hG hdn hdep K hK
      have hg : us 10 = .bool false := hG.pre 10 (dm 10 hdep rfl)
      rw [if_neg (by rw [hy]; exact yn true hg rfl)]
      exact hK _ _ (hG.first trivial)
    · intro dn us w6 A hev hy hG hdn hdep K hK
      have hg : us 10 = .bool false := hG.pre 10 (dm 10 hdep rfl)
      rw [if_neg (by rw [hy]; exact yn true hg rfl)]
      exact hK _ _ (hG.first trivial)
    · intro dn us w6 A hev hy hG hdn hdep K hK
      have hg : us 10 = .bool false := hG.pre 10 (dm 10 hdep rfl)
      rw [if_neg (by rw [hy]; exact yn true hg rfl)]
      exact hK _ _ (hG.first trivial)
    · intro dn us w6 A hev hy hG hdn hdep K hK
      have hg : us 10 = .bool false := hG.pre 10 (dm 10 hdep rfl)
      rw [if_neg (by rw [hy]; exact yn true hg rfl)]
      exact hK _ _ (hG.first trivial)
    · intro dn us w6 A hev hy hG hdn hdep K hK
      have e0 : A.eval (.tmp 72) = .bool false := by rw [hev]; exact hG.pre 10 (dm 10 hdep rfl)
      have e1 : A.eval (.const (.bool false)) = .bool false := by rw [hev]; rfl
      rw [if_pos (by rfl)]; unfold Oper.wp execOp; generalize A.eval = ev at e0 e1 ⊢; go_simp; exact hK _ _ (hG.first (by first | rfl | (simp; done) | (simp; omega) | (simp; assumption)))
    · intro dn us w6 A hev hy hG hdn hdep K hK
      have e0 : A.eval (.tmp 80) = .bool false := by rw [hev]; exact hG.pre 18 (dm 18 hdep rfl)
      rw [if_pos (by rfl)]; unfold Oper.wp execOp; generalize A.eval = ev at e0 ⊢; go_simp; exact hK _ _ (hG.first (by first | rfl | (simp; done) | (simp; omega) | (simp; assumption)))
    · intro dn us w6 A hev hy hG hdn hdep K hK
      have hg : us 19 = .bool false := hG.pre 19 (dm 19 hdep rfl)
      rw [if_neg (by rw [hy]; exact yn true hg rfl)]
      exact hK _ _ (hG.first trivial)
    · intro dn us w6 A hev hy hG hdn hdep K hK
      have hg : us 19 = .bool false := hG.pre 19 (dm 19 hdep rfl)
      rw [if_neg (by rw [hy]; exact yn true hg rfl)]
      exact hK _ _ (hG.first trivial)
    · intro dn us w6 A hev hy hG hdn hdep K hK
      have hg : us 19 = .bool false := hG.pre 19 (dm 19 hdep rfl)
      rw [if_neg (by rw [hy]; exact yn true hg rfl)]
      exact hK _ _ (hG.first trivial)
    · intro dn us w6 A hev hy hG hdn hdep K hK
      have e0 : A.eval (.tmp 81) = .bool false := by rw [hev]; exact hG.pre 19 (dm 19 hdep rfl)
      have e1 : A.eval (.const (.bool false)) = .bool false := by rw [hev]; rfl
      rw [if_pos (by rfl)]; unfold Oper.wp execOp; generalize A.eval = ev at e0 e1 ⊢; go_simp; exact hK _ _ (hG.first (by first | rfl | (simp; done) | (simp; omega) | (simp; assumption)))
    intro dn us w6 hG hall
    have u23 : us 23 = .bool false := hG.pre 23 (hall 23 (by decide))
    have D6 := hG.below
    simp only [fillA, fillT, Nat.reduceAdd, List.setIfInBounds_toArray, List.set_cons_zero, List.set_cons_succ, u23]
    clear hG hall u23
    go_wp2_with fail
    go_end0
    exact ⟨rfl, HH3.out.below (D4.trans ((D5.trans (D6.mono D5.size)).mono D4.size)), by rw [HJ.out]; exact ⟨_, A5.below' D6, ((HI3.out.below D4).below D5).below D6, O3.thenBelow (D4.trans ((D5.trans (D6.mono D5.size)).mono D4.size))⟩⟩
  | true =>
    have HV := Lib.hid (show s.peek (s.wordAt (s.carried node)) = 1 from by simpa using HIV.out)
    by_cases hlo : c.key ≤ (s.key node)
    case neg =>
      have HJ := Lib.hid (show s.judgeL c node (s.peek (s.wordAt (s.carried node))) l = l from if_neg (fun q => hlo q.2.1))
      have HLO := Lib.hid hlo
      clear hlo
      refine wp_region_J (l := [_, _, _, _, _, _, _, _, _, _, _, _, _, _, _, _, _, _, _, _, _, _, _, _]) (QG (fun j v => match j with | 0 => v = .bool true | 1 => v = .bool true | 2 => v = .int .u64 (s.key node) | 3 => v = .pointer (some ⟨b, 0, none⟩) | 4 => v = .pointer (some ⟨b, 0, none⟩) | 5 => v = .pointer (some ⟨b, 0, none⟩) | 6 => v = .pointer (some ⟨b, 1, none⟩) | 7 => v = .int .u64 c.key | 8 => v = .bool false | 9 => v = .bool false | 10 => v = .bool false | 18 => v = .bool false | 19 => v = .bool false | 23 => v = .bool false | _ => True) w5) (by kernel_rfl) (by kernel_rfl) (fun us => QG.start us) ⟨?_, ?_, ?_, ?_, ?_, ?_, ?_, ?_, ?_, ?_, ?_, ?_, ?_, ?_, ?_, ?_, ?_, ?_, ?_, ?_, ?_, ?_, ?_, ?_, trivial⟩ ?_
      · intro dn us w6 A hev hy hG hdn hdep K hK
        have e0 : A.eval (.tmp 6) = .bool true := by rw [hev]; rfl
        rw [if_pos (by rfl)]; unfold Oper.wp execOp; generalize A.eval = ev at e0 ⊢; go_simp; exact hK _ _ (hG.first (by first | rfl | (simp; done) | (simp; omega) | (simp; assumption)))
      · intro dn us w6 A hev hy hG hdn hdep K hK
        have e0 : A.eval (.tmp 62) = .bool true := by rw [hev]; exact hG.pre 0 (dm 0 hdep rfl)
        rw [if_pos (by rfl)]; unfold Oper.wp execOp; generalize A.eval = ev at e0 ⊢; go_simp; exact hK _ _ (hG.first (by first | rfl | (simp; done) | (simp; omega) | (simp; assumption)))
      · intro dn us w6 A hev hy hG hdn hdep K hK
        have e0 : A.eval (.tmp 5) = .pointer (some ⟨g5, 0, none⟩) := by rw [hev]; rfl
        have cc0 : w6.cell? ⟨g5, 0, none⟩ = some (.int .u64 (s.key node)) := by rw [hG.below.cell (World.block_lt_of_cell? _ _ k5)]; exact k5
        have hg : us 1 = .bool true := hG.pre 1 (dm 1 hdep rfl)
        rw [if_pos (by rw [hy]; exact yb hg)]; unfold Oper.wp execOp; generalize A.eval = ev at e0 ⊢; go_simp; exact hK _ _ (hG.first (by first | rfl | (simp; done) | (simp; omega) | (simp; assumption)))
      · intro dn us w6 A hev hy hG hdn hdep K hK
        have e0 : A.eval (.tmp 0) = .pointer (some ⟨b, 0, none⟩) := by rw [hev]; rfl
        have hg : us 1 = .bool true := hG.pre 1 (dm 1 hdep rfl)
        rw [if_pos (by rw [hy]; exact yb hg)]; unfold Oper.wp execOp; generalize A.eval = ev at e0 ⊢; go_simp; exact hK _ _ (hG.first (by first | rfl | (simp; done) | (simp; omega) | (simp; assumption)))
      · intro dn us w6 A hev hy hG hdn hdep K hK
        have e0 : A.eval (.tmp 65) = .pointer (some ⟨b, 0, none⟩) := by rw [hev]; exact hG.pre 3 (dm 3 hdep rfl)
        have hg : us 1 = .bool true := hG.pre 1 (dm 1 hdep rfl)
        rw [if_pos (by rw [hy]; exact yb hg)]; unfold Oper.wp execOp; generalize A.eval = ev at e0 ⊢; go_simp; exact hK _ _ (hG.first (by first | rfl | (simp; done) | (simp; omega) | (simp; assumption)))
      · intro dn us w6 A hev hy hG hdn hdep K hK
        have e0 : A.eval (.tmp 66) = .pointer (some ⟨b, 0, none⟩) := by rw [hev]; exact hG.pre 4 (dm 4 hdep rfl)
        have hg : us 1 = .bool true := hG.pre 1 (dm 1 hdep rfl)
        rw [if_pos (by rw [hy]; exact yb hg)]; unfold Oper.wp execOp; generalize A.eval = ev at e0 ⊢; go_simp; exact hK _ _ (hG.first (by first | rfl | (simp; done) | (simp; omega) | (simp; assumption)))
      · intro dn us w6 A hev hy hG hdn hdep K hK
        have e0 : A.eval (.tmp 67) = .pointer (some ⟨b, 0, none⟩) := by rw [hev]; exact hG.pre 5 (dm 5 hdep rfl)
        have hg : us 1 = .bool true := hG.pre 1 (dm 1 hdep rfl)
        rw [if_pos (by rw [hy]; exact yb hg)]; unfold Oper.wp execOp; generalize A.eval = ev at e0 ⊢; go_simp; exact hK _ _ (hG.first (by first | rfl | (simp; done) | (simp; omega) | (simp; assumption)))
      · intro dn us w6 A hev hy hG hdn hdep K hK
        have e0 : A.eval (.tmp 68) = .pointer (some ⟨b, 1, none⟩) := by rw [hev]; exact hG.pre 6 (dm 6 hdep rfl)
        have cc0 : w6.cell? ⟨b, 1, none⟩ = some (.int .u64 c.key) := by rw [hG.below.cell (World.block_lt_of_cell? _ _ y1)]; exact y1
        have hg : us 1 = .bool true := hG.pre 1 (dm 1 hdep rfl)
        rw [if_pos (by rw [hy]; exact yb hg)]; unfold Oper.wp execOp; generalize A.eval = ev at e0 ⊢; go_simp; exact hK _ _ (hG.first (by first | rfl | (simp; done) | (simp; omega) | (simp; assumption)))
      · intro dn us w6 A hev hy hG hdn hdep K hK
        have e0 : A.eval (.tmp 64) = .int .u64 (s.key node) := by rw [hev]; exact hG.pre 2 (dm 2 hdep rfl)
        have e1 : A.eval (.tmp 69) = .int .u64 c.key := by rw [hev]; exact hG.pre 7 (dm 7 hdep rfl)
        have hle := HLO.out
        have hg : us 1 = .bool true := hG.pre 1 (dm 1 hdep rfl)
        rw [if_pos (by rw [hy]; exact yb hg)]; unfold Oper.wp execOp; generalize A.eval = ev at e0 e1 ⊢; go_simp; exact hK _ _ (hG.first (by first | rfl | (simp; done) | (simp; omega) | (simp; assumption)))
      · intro dn us w6 A hev hy hG hdn hdep K hK
        have e0 : A.eval (.tmp 63) = .bool true := by rw [hev]; exact hG.pre 1 (dm 1 hdep rfl)
        have e1 : A.eval (.tmp 70) = .bool false := by rw [hev]; exact hG.pre 8 (dm 8 hdep rfl)
        have e2 : A.eval (.const (.bool false)) = .bool false := by rw [hev]; rfl
        rw [if_pos (by rfl)]; unfold Oper.wp execOp; generalize A.eval = ev at e0 e1 e2 ⊢; go_simp; exact hK _ _ (hG.first (by first | rfl | (simp; done) | (simp; omega) | (simp; assumption)))
      · intro dn us w6 A hev hy hG hdn hdep K hK
        have e0 : A.eval (.tmp 71) = .bool false := by rw [hev]; exact hG.pre 9 (dm 9 hdep rfl)
        rw [if_pos (by rfl)]; unfold Oper.wp execOp; generalize A.eval = ev at e0 ⊢; go_simp; exact hK _ _ (hG.first (by first | rfl | (simp; done) | (simp; omega) | (simp; assumption)))
      · intro dn us w6 A hev hy hG hdn hdep K hK
        have hg : us 10 = .bool false := hG.pre 10 (dm 10 hdep rfl)
        rw [if_neg (by rw [hy]; exact yn true hg rfl)]
        exact hK _ _ (hG.first trivial)
      · intro dn us w6 A hev hy hG hdn hdep K hK
        have hg : us 10 = .bool false := hG.pre 10 (dm 10 hdep rfl)
        rw [if_neg (by rw [hy]; exact yn true hg rfl)]
        exact hK _ _ (hG.first trivial)
      · intro dn us w6 A hev hy hG hdn hdep K hK
        have hg : us 10 = .bool false := hG.pre 10 (dm 10 hdep rfl)
        rw [if_neg (by rw [hy]; exact yn true hg rfl)]
        exact hK _ _ (hG.first trivial)
      · intro dn us w6 A hev hy hG hdn hdep K hK
        have hg : us 10 = .bool false := hG.pre 10 (dm 10 hdep rfl)
        rw [if_neg (by rw [hy]; exact yn true hg rfl)]
        exact hK _ _ (hG.first trivial)
      · intro dn us w6 A hev hy hG hdn hdep K hK
        have hg : us 10 = .bool false := hG.pre 10 (dm 10 hdep rfl)
        rw [if_neg (by rw [hy]; exact yn true hg rfl)]
        exact hK _ _ (hG.first trivial)
      · intro dn us w6 A hev hy hG hdn hdep K hK
        have hg : us 10 = .bool false := hG.pre 10 (dm 10 hdep rfl)
        rw [if_neg (by rw [hy]; exact yn true hg rfl)]
        exact hK _ _ (hG.first trivial)
      · intro dn us w6 A hev hy hG hdn hdep K hK
        have hg : us 10 = .bool false := hG.pre 10 (dm 10 hdep rfl)
        rw [if_neg (by rw [hy]; exact yn true hg rfl)]
        exact hK _ _ (hG.first trivial)
      · intro dn us w6 A hev hy hG hdn hdep K hK
        have e0 : A.eval (.tmp 72) = .bool false := by rw [hev]; exact hG.pre 10 (dm 10 hdep rfl)
        have e1 : A.eval (.const (.bool false)) = .bool false := by rw [hev]; rfl
        rw [if_pos (by rfl)]; unfold Oper.wp execOp; generalize A.eval = ev at e0 e1 ⊢; go_simp; exact hK _ _ (hG.first (by first | rfl | (simp; done) | (simp; omega) | (simp; assumption)))
      · intro dn us w6 A hev hy hG hdn hdep K hK
        have e0 : A.eval (.tmp 80) = .bool false := by rw [hev]; exact hG.pre 18 (dm 18 hdep rfl)
        rw [if_pos (by rfl)]; unfold Oper.wp execOp; generalize A.eval = ev at e0 ⊢; go_simp; exact hK _ _ (hG.first (by first | rfl | (simp; done) | (simp; omega) | (simp; assumption)))
      · intro dn us w6 A hev hy hG hdn hdep K hK
        have hg : us 19 = .bool false := hG.pre 19 (dm 19 hdep rfl)
        rw [if_neg (by rw [hy]; exact yn true hg rfl)]
        exact hK _ _ (hG.first trivial)
      · intro dn us w6 A hev hy hG hdn hdep K hK
        have hg : us 19 = .bool false := hG.pre 19 (dm 19 hdep rfl)
        rw [if_neg (by rw [hy]; exact yn true hg rfl)]
        exact hK _ _ (hG.first trivial)
      · intro dn us w6 A hev hy hG hdn hdep K hK
        have hg : us 19 = .bool false := hG.pre 19 (dm 19 hdep rfl)
        rw [if_neg (by rw [hy]; exact yn true hg rfl)]
        exact hK _ _ (hG.first trivial)
      · intro dn us w6 A hev hy hG hdn hdep K hK
        have e0 : A.eval (.tmp 81) = .bool false := by rw [hev]; exact hG.pre 19 (dm 19 hdep rfl)
        have e1 : A.eval (.const (.bool false)) = .bool false := by rw [hev]; rfl
        rw [if_pos (by rfl)]; unfold Oper.wp execOp; generalize A.eval = ev at e0 e1 ⊢; go_simp; exact hK _ _ (hG.first (by first | rfl | (simp; done) | (simp; omega) | (simp; assumption)))
      intro dn us w6 hG hall
      have u23 : us 23 = .bool false := hG.pre 23 (hall 23 (by decide))
      have D6 := hG.below
      simp only [fillA, fillT, Nat.reduceAdd, List.setIfInBounds_toArray, List.set_cons_zero, List.set_cons_succ, u23]
      clear hG hall u23
      go_wp2_with fail
      go_end0
      exact ⟨rfl, HH3.out.below (D4.trans ((D5.trans (D6.mono D5.size)).mono D4.size)), by rw [HJ.out]; exact ⟨_, A5.below' D6, ((HI3.out.below D4).below D5).below D6, O3.thenBelow (D4.trans ((D5.trans (D6.mono D5.size)).mono D4.size))⟩⟩
    case pos =>
     have HLO := Lib.hid hlo
     clear hlo
     by_cases hhi : (s.key node) ≤ c.val
     case neg =>
      have HJ := Lib.hid (show s.judgeL c node (s.peek (s.wordAt (s.carried node))) l = l from if_neg (fun q => hhi q.2.2.1))
      have HHI := Lib.hid hhi
      clear hhi
      refine wp_region_J (l := [_, _, _, _, _, _, _, _, _, _, _, _, _, _, _, _, _, _, _, _, _, _, _, _]) (QG (fun j v => match j with | 0 => v = .bool true | 1 => v = .bool true | 2 => v = .int .u64 (s.key node) | 3 => v = .pointer (some ⟨b, 0, none⟩) | 4 => v = .pointer (some ⟨b, 0, none⟩) | 5 => v = .pointer (some ⟨b, 0, none⟩) | 6 => v = .pointer (some ⟨b, 1, none⟩) | 7 => v = .int .u64 c.key | 8 => v = .bool true | 9 => v = .bool true | 10 => v = .bool true | 11 => v = .int .u64 (s.key node) | 12 => v = .pointer (some ⟨b, 0, none⟩) | 13 => v = .pointer (some ⟨b, 0, none⟩) | 14 => v = .pointer (some ⟨b, 0, none⟩) | 15 => v = .pointer (some ⟨b, 2, none⟩) | 16 => v = .int .u64 c.val | 17 => v = .bool false | 18 => v = .bool false | 19 => v = .bool false | 23 => v = .bool false | _ => True) w5) (by kernel_rfl) (by kernel_rfl) (fun us => QG.start us) ⟨?_, ?_, ?_, ?_, ?_, ?_, ?_, ?_, ?_, ?_, ?_, ?_, ?_, ?_, ?_, ?_, ?_, ?_, ?_, ?_, ?_, ?_, ?_, ?_, trivial⟩ ?_
      · intro dn us w6 A hev hy hG hdn hdep K hK
        have e0 : A.eval (.tmp 6) = .bool true := by rw [hev]; rfl
        rw [if_pos (by rfl)]; unfold Oper.wp execOp; generalize A.eval = ev at e0 ⊢; go_simp; exact hK _ _ (hG.first (by first | rfl | (simp; done) | (simp; omega) | (simp; assumption)))
      · intro dn us w6 A hev hy hG hdn hdep K hK
        have e0 : A.eval (.tmp 62) = .bool true := by rw [hev]; exact hG.pre 0 (dm 0 hdep rfl)
        rw [if_pos (by rfl)]; unfold Oper.wp execOp; generalize A.eval = ev at e0 ⊢; go_simp; exact hK _ _ (hG.first (by first | rfl | (simp; done) | (simp; omega) | (simp; assumption)))
      · intro dn us w6 A hev hy hG hdn hdep K hK
        have e0 : A.eval (.tmp 5) = .pointer (some ⟨g5, 0, none⟩) := by rw [hev]; rfl
        have cc0 : w6.cell? ⟨g5, 0, none⟩ = some (.int .u64 (s.key node)) := by rw [hG.below.cell (World.block_lt_of_cell? _ _ k5)]; exact k5
        have hg : us 1 = .bool true := hG.pre 1 (dm 1 hdep rfl)
        rw [if_pos (by rw [hy]; exact yb hg)]; unfold Oper.wp execOp; generalize A.eval = ev at e0 ⊢; go_simp; exact hK _ _ (hG.first (by first | rfl | (simp; done) | (simp; omega) | (simp; assumption)))
      · intro dn us w6 A hev hy hG hdn hdep K hK
        have e0 : A.eval (.tmp 0) = .pointer (some ⟨b, 0, none⟩) := by rw [hev]; rfl
        have hg : us 1 = .bool true := hG.pre 1 (dm 1 hdep rfl)
        rw [if_pos (by rw [hy]; exact yb hg)]; unfold Oper.wp execOp; generalize A.eval = ev at e0 ⊢; go_simp; exact hK _ _ (hG.first (by first | rfl | (simp; done) | (simp; omega) | (simp; assumption)))
      · intro dn us w6 A hev hy hG hdn hdep K hK
        have e0 : A.eval (.tmp 65) = .pointer (some ⟨b, 0, none⟩) := by rw [hev]; exact hG.pre 3 (dm 3 hdep rfl)
        have hg : us 1 = .bool true := hG.pre 1 (dm 1 hdep rfl)
        rw [if_pos (by rw [hy]; exact yb hg)]; unfold Oper.wp execOp; generalize A.eval = ev at e0 ⊢; go_simp; exact hK _ _ (hG.first (by first | rfl | (simp; done) | (simp; omega) | (simp; assumption)))
      · intro dn us w6 A hev hy hG hdn hdep K hK
        have e0 : A.eval (.tmp 66) = .pointer (some ⟨b, 0, none⟩) := by rw [hev]; exact hG.pre 4 (dm 4 hdep rfl)
        have hg : us 1 = .bool true := hG.pre 1 (dm 1 hdep rfl)
        rw [if_pos (by rw [hy]; exact yb hg)]; unfold Oper.wp execOp; generalize A.eval = ev at e0 ⊢; go_simp; exact hK _ _ (hG.first (by first | rfl | (simp; done) | (simp; omega) | (simp; assumption)))
      · intro dn us w6 A hev hy hG hdn hdep K hK
        have e0 : A.eval (.tmp 67) = .pointer (some ⟨b, 0, none⟩) := by rw [hev]; exact hG.pre 5 (dm 5 hdep rfl)
        have hg : us 1 = .bool true := hG.pre 1 (dm 1 hdep rfl)
        rw [if_pos (by rw [hy]; exact yb hg)]; unfold Oper.wp execOp; generalize A.eval = ev at e0 ⊢; go_simp; exact hK _ _ (hG.first (by first | rfl | (simp; done) | (simp; omega) | (simp; assumption)))
      · intro dn us w6 A hev hy hG hdn hdep K hK
        have e0 : A.eval (.tmp 68) = .pointer (some ⟨b, 1, none⟩) := by rw [hev]; exact hG.pre 6 (dm 6 hdep rfl)
        have cc0 : w6.cell? ⟨b, 1, none⟩ = some (.int .u64 c.key) := by rw [hG.below.cell (World.block_lt_of_cell? _ _ y1)]; exact y1
        have hg : us 1 = .bool true := hG.pre 1 (dm 1 hdep rfl)
        rw [if_pos (by rw [hy]; exact yb hg)]; unfold Oper.wp execOp; generalize A.eval = ev at e0 ⊢; go_simp; exact hK _ _ (hG.first (by first | rfl | (simp; done) | (simp; omega) | (simp; assumption)))
      · intro dn us w6 A hev hy hG hdn hdep K hK
        have e0 : A.eval (.tmp 64) = .int .u64 (s.key node) := by rw [hev]; exact hG.pre 2 (dm 2 hdep rfl)
        have e1 : A.eval (.tmp 69) = .int .u64 c.key := by rw [hev]; exact hG.pre 7 (dm 7 hdep rfl)
        have hle := HLO.out
        have hg : us 1 = .bool true := hG.pre 1 (dm 1 hdep rfl)
        rw [if_pos (by rw [hy]; exact yb hg)]; unfold Oper.wp execOp; generalize A.eval = ev at e0 e1 ⊢; go_simp; exact hK _ _ (hG.first (by first | rfl | (simp; done) | (simp; omega) | (simp; assumption)))
      · intro dn us w6 A hev hy hG hdn hdep K hK
        have e0 : A.eval (.tmp 63) = .bool true := by rw [hev]; exact hG.pre 1 (dm 1 hdep rfl)
        have e1 : A.eval (.tmp 70) = .bool true := by rw [hev]; exact hG.pre 8 (dm 8 hdep rfl)
        have e2 : A.eval (.const (.bool false)) = .bool false := by rw [hev]; rfl
        rw [if_pos (by rfl)]; unfold Oper.wp execOp; generalize A.eval = ev at e0 e1 e2 ⊢; go_simp; exact hK _ _ (hG.first (by first | rfl | (simp; done) | (simp; omega) | (simp; assumption)))
      · intro dn us w6 A hev hy hG hdn hdep K hK
        have e0 : A.eval (.tmp 71) = .bool true := by rw [hev]; exact hG.pre 9 (dm 9 hdep rfl)
        rw [if_pos (by rfl)]; unfold Oper.wp execOp; generalize A.eval = ev at e0 ⊢; go_simp; exact hK _ _ (hG.first (by first | rfl | (simp; done) | (simp; omega) | (simp; assumption)))
      · intro dn us w6 A hev hy hG hdn hdep K hK
        have e0 : A.eval (.tmp 5) = .pointer (some ⟨g5, 0, none⟩) := by rw [hev]; rfl
        have cc0 : w6.cell? ⟨g5, 0, none⟩ = some (.int .u64 (s.key node)) := by rw [hG.below.cell (World.block_lt_of_cell? _ _ k5)]; exact k5
        have hg : us 10 = .bool true := hG.pre 10 (dm 10 hdep rfl)
        rw [if_pos (by rw [hy]; exact yb hg)]; unfold Oper.wp execOp; generalize A.eval = ev at e0 ⊢; go_simp; exact hK _ _ (hG.first (by first | rfl | (simp; done) | (simp; omega) | (simp; assumption)))
      · intro dn us w6 A hev hy hG hdn hdep K hK
        have e0 : A.eval (.tmp 0) = .pointer (some ⟨b, 0, none⟩) := by rw [hev]; rfl
        have hg : us 10 = .bool true := hG.pre 10 (dm 10 hdep rfl)
        rw [if_pos (by rw [hy]; exact yb hg)]; unfold Oper.wp execOp; generalize A.eval = ev at e0 ⊢; go_simp; exact hK _ _ (hG.first (by first | rfl | (simp; done) | (simp; omega) | (simp; assumption)))
      · intro dn us w6 A hev hy hG hdn hdep K hK
        have e0 : A.eval (.tmp 74) = .pointer (some ⟨b, 0, none⟩) := by rw [hev]; exact hG.pre 12 (dm 12 hdep rfl)
        have hg : us 10 = .bool true := hG.pre 10 (dm 10 hdep rfl)
        rw [if_pos (by rw [hy]; exact yb hg)]; unfold Oper.wp execOp; generalize A.eval = ev at e0 ⊢; go_simp; exact hK _ _ (hG.first (by first | rfl | (simp; done) | (simp; omega) | (simp; assumption)))
      · intro dn us w6 A hev hy hG hdn hdep K hK
        have e0 : A.eval (.tmp 75) = .pointer (some ⟨b, 0, none⟩) := by rw [hev]; exact hG.pre 13 (dm 13 hdep rfl)
        have hg : us 10 = .bool true := hG.pre 10 (dm 10 hdep rfl)
        rw [if_pos (by rw [hy]; exact yb hg)]; unfold Oper.wp execOp; generalize A.eval = ev at e0 ⊢; go_simp; exact hK _ _ (hG.first (by first | rfl | (simp; done) | (simp; omega) | (simp; assumption)))
      · intro dn us w6 A hev hy hG hdn hdep K hK
        have e0 : A.eval (.tmp 76) = .pointer (some ⟨b, 0, none⟩) := by rw [hev]; exact hG.pre 14 (dm 14 hdep rfl)
        have hg : us 10 = .bool true := hG.pre 10 (dm 10 hdep rfl)
        rw [if_pos (by rw [hy]; exact yb hg)]; unfold Oper.wp execOp; generalize A.eval = ev at e0 ⊢; go_simp; exact hK _ _ (hG.first (by first | rfl | (simp; done) | (simp; omega) | (simp; assumption)))
      · intro dn us w6 A hev hy hG hdn hdep K hK
        have e0 : A.eval (.tmp 77) = .pointer (some ⟨b, 2, none⟩) := by rw [hev]; exact hG.pre 15 (dm 15 hdep rfl)
        have cc0 : w6.cell? ⟨b, 2, none⟩ = some (.int .u64 c.val) := by rw [hG.below.cell (World.block_lt_of_cell? _ _ y2)]; exact y2
        have hg : us 10 = .bool true := hG.pre 10 (dm 10 hdep rfl)
        rw [if_pos (by rw [hy]; exact yb hg)]; unfold Oper.wp execOp; generalize A.eval = ev at e0 ⊢; go_simp; exact hK _ _ (hG.first (by first | rfl | (simp; done) | (simp; omega) | (simp; assumption)))
      · intro dn us w6 A hev hy hG hdn hdep K hK
        have e0 : A.eval (.tmp 73) = .int .u64 (s.key node) := by rw [hev]; exact hG.pre 11 (dm 11 hdep rfl)
        have e1 : A.eval (.tmp 78) = .int .u64 c.val := by rw [hev]; exact hG.pre 16 (dm 16 hdep rfl)
        have hle := HHI.out
        have hg : us 10 = .bool true := hG.pre 10 (dm 10 hdep rfl)
        rw [if_pos (by rw [hy]; exact yb hg)]; unfold Oper.wp execOp; generalize A.eval = ev at e0 e1 ⊢; go_simp; exact hK _ _ (hG.first (by first | rfl | (simp; done) | (simp; omega) | (simp; assumption)))
      · intro dn us w6 A hev hy hG hdn hdep K hK
        have e0 : A.eval (.tmp 72) = .bool true := by rw [hev]; exact hG.pre 10 (dm 10 hdep rfl)
        have e1 : A.eval (.tmp 79) = .bool false := by rw [hev]; exact hG.pre 17 (dm 17 hdep rfl)
        have e2 : A.eval (.const (.bool false)) = .bool false := by rw [hev]; rfl
        rw [if_pos (by rfl)]; unfold Oper.wp execOp; generalize A.eval = ev at e0 e1 e2 ⊢; go_simp; exact hK _ _ (hG.first (by first | rfl | (simp; done) | (simp; omega) | (simp; assumption)))
      · intro dn us w6 A hev hy hG hdn hdep K hK
        have e0 : A.eval (.tmp 80) = .bool false := by rw [hev]; exact hG.pre 18 (dm 18 hdep rfl)
        rw [if_pos (by rfl)]; unfold Oper.wp execOp; generalize A.eval = ev at e0 ⊢; go_simp; exact hK _ _ (hG.first (by first | rfl | (simp; done) | (simp; omega) | (simp; assumption)))
      · intro dn us w6 A hev hy hG hdn hdep K hK
        have hg : us 19 = .bool false := hG.pre 19 (dm 19 hdep rfl)
        rw [if_neg (by rw [hy]; exact yn true hg rfl)]
        exact hK _ _ (hG.first trivial)
      · intro dn us w6 A hev hy hG hdn hdep K hK
        have hg : us 19 = .bool false := hG.pre 19 (dm 19 hdep rfl)
        rw [if_neg (by rw [hy]; exact yn true hg rfl)]
        exact hK _ _ (hG.first trivial)
      · intro dn us w6 A hev hy hG hdn hdep K hK
        have hg : us 19 = .bool false := hG.pre 19 (dm 19 hdep rfl)
        rw [if_neg (by rw [hy]; exact yn true hg rfl)]
        exact hK _ _ (hG.first trivial)
      · intro dn us w6 A hev hy hG hdn hdep K hK
        have e0 : A.eval (.tmp 81) = .bool false := by rw [hev]; exact hG.pre 19 (dm 19 hdep rfl)
        have e1 : A.eval (.const (.bool false)) = .bool false := by rw [hev]; rfl
        rw [if_pos (by rfl)]; unfold Oper.wp execOp; generalize A.eval = ev at e0 e1 ⊢; go_simp; exact hK _ _ (hG.first (by first | rfl | (simp; done) | (simp; omega) | (simp; assumption)))
      intro dn us w6 hG hall
      have u23 : us 23 = .bool false := hG.pre 23 (hall 23 (by decide))
      have D6 := hG.below
      simp only [fillA, fillT, Nat.reduceAdd, List.setIfInBounds_toArray, List.set_cons_zero, List.set_cons_succ, u23]
      clear hG hall u23
      go_wp2_with fail
      go_end0
      exact ⟨rfl, HH3.out.below (D4.trans ((D5.trans (D6.mono D5.size)).mono D4.size)), by rw [HJ.out]; exact ⟨_, A5.below' D6, ((HI3.out.below D4).below D5).below D6, O3.thenBelow (D4.trans ((D5.trans (D6.mono D5.size)).mono D4.size))⟩⟩
     case pos =>
      have HHI := Lib.hid hhi
      clear hhi
      cases hfr : freshP l (s.key node) with
      | false =>
       have HFR := Lib.hid hfr
       have HJ := Lib.hid (show s.judgeL c node (s.peek (s.wordAt (s.carried node))) l = l from if_neg (fun q => by have := HFR.out; rw [q.2.2.2] at this; cases this))
       clear hfr
       refine wp_region_J (l := [_, _, _, _, _, _, _, _, _, _, _, _, _, _, _, _, _, _, _, _, _, _, _, _]) (QG (fun j v => match j with | 0 => v = .bool true | 1 => v = .bool true | 2 => v = .int .u64 (s.key node) | 3 => v = .pointer (some ⟨b, 0, none⟩) | 4 => v = .pointer (some ⟨b, 0, none⟩) | 5 => v = .pointer (some ⟨b, 0, none⟩) | 6 => v = .pointer (some ⟨b, 1, none⟩) | 7 => v = .int .u64 c.key | 8 => v = .bool true | 9 => v = .bool true | 10 => v = .bool true | 11 => v = .int .u64 (s.key node) | 12 => v = .pointer (some ⟨b, 0, none⟩) | 13 => v = .pointer (some ⟨b, 0, none⟩) | 14 => v = .pointer (some ⟨b, 0, none⟩) | 15 => v = .pointer (some ⟨b, 2, none⟩) | 16 => v = .int .u64 c.val | 17 => v = .bool true | 18 => v = .bool true | 19 => v = .bool true | 20 => v = .func (.func 145) #[] #[.pointer (some ⟨g5, 0, none⟩)] | 21 => v = .slice ao l.length cap | 22 => v = .bool false | 23 => v = .bool false | _ => True) w5) (by kernel_rfl) (by kernel_rfl) (fun us => QG.start us) ⟨?_, ?_, ?_, ?_, ?_, ?_, ?_, ?_, ?_, ?_, ?_, ?_, ?_, ?_, ?_, ?_, ?_, ?_, ?_, ?_, ?_, ?_, ?_, ?_, trivial⟩ ?_
       · intro dn us w6 A hev hy hG hdn hdep K hK
         have e0 : A.eval (.tmp 6) = .bool true := by rw [hev]; rfl
         rw [if_pos (by rfl)]; unfold Oper.wp execOp; generalize A.eval = ev at e0 ⊢; go_simp; exact hK _ _ (hG.first (by first | rfl | (simp; done) | (simp; omega) | (simp; assumption)))
       · intro dn us w6 A hev hy hG hdn hdep K hK
         have e0 : A.eval (.tmp 62) = .bool true := by rw [hev]; exact hG.pre 0 (dm 0 hdep rfl)
         rw [if_pos (by rfl)]; unfold Oper.wp execOp; generalize A.eval = ev at e0 ⊢; go_simp; exact hK _ _ (hG.first (by first | rfl | (simp; done) | (simp; omega) | (simp; assumption)))
       · intro dn us w6 A hev hy hG hdn hdep K hK
         have e0 : A.eval (.tmp 5) = .pointer (some ⟨g5, 0, none⟩) := by rw [hev]; rfl
         have cc0 : w6.cell? ⟨g5, 0, none⟩ = some (.int .u64 (s.key node)) := by rw [hG.below.cell (World.block_lt_of_cell? _ _ k5)]; exact k5
         have hg : us 1 = .bool true := hG.pre 1 (dm 1 hdep rfl)
         rw [if_pos (by rw [hy]; exact yb hg)]; unfold Oper.wp execOp; generalize A.eval = ev at e0 ⊢; go_simp; exact hK _ _ (hG.first (by first | rfl | (simp; done) | (simp; omega) | (simp; assumption)))
       · intro dn us w6 A hev hy hG hdn hdep K hK
         have e0 : A.eval (.tmp 0) = .pointer (some ⟨b, 0, none⟩) := by rw [hev]; rfl
         have hg : us 1 = .bool true := hG.pre 1 (dm 1 hdep rfl)
         rw [if_pos (by rw [hy]; exact yb hg)]; unfold Oper.wp execOp; generalize A.eval = ev at e0 ⊢; go_simp; exact hK _ _ (hG.first (by first | rfl | (simp; done) | (simp; omega) | (simp; assumption)))
       · intro dn us w6 A hev hy hG hdn hdep K hK
         have e0 : A.eval (.tmp 65) = .pointer (some ⟨b, 0, none⟩) := by rw [hev]; exact hG.pre 3 (dm 3 hdep rfl)
         have hg : us 1 = .bool true := hG.pre 1 (dm 1 hdep rfl)
         rw [if_pos (by rw [hy]; exact yb hg)]; unfold Oper.wp execOp; generalize A.eval = ev at e0 ⊢; go_simp; exact hK _ _ (hG.first (by first | rfl | (simp; done) | (simp; omega) | (simp; assumption)))
       · intro dn us w6 A hev hy hG hdn hdep K hK
         have e0 : A.eval (.tmp 66) = .pointer (some ⟨b, 0, none⟩) := by rw [hev]; exact hG.pre 4 (dm 4 hdep rfl)
         have hg : us 1 = .bool true := hG.pre 1 (dm 1 hdep rfl)
         rw [if_pos (by rw [hy]; exact yb hg)]; unfold Oper.wp execOp; generalize A.eval = ev at e0 ⊢; go_simp; exact hK _ _ (hG.first (by first | rfl | (simp; done) | (simp; omega) | (simp; assumption)))
       · intro dn us w6 A hev hy hG hdn hdep K hK
         have e0 : A.eval (.tmp 67) = .pointer (some ⟨b, 0, none⟩) := by rw [hev]; exact hG.pre 5 (dm 5 hdep rfl)
         have hg : us 1 = .bool true := hG.pre 1 (dm 1 hdep rfl)
         rw [if_pos (by rw [hy]; exact yb hg)]; unfold Oper.wp execOp; generalize A.eval = ev at e0 ⊢; go_simp; exact hK _ _ (hG.first (by first | rfl | (simp; done) | (simp; omega) | (simp; assumption)))
       · intro dn us w6 A hev hy hG hdn hdep K hK
         have e0 : A.eval (.tmp 68) = .pointer (some ⟨b, 1, none⟩) := by rw [hev]; exact hG.pre 6 (dm 6 hdep rfl)
         have cc0 : w6.cell? ⟨b, 1, none⟩ = some (.int .u64 c.key) := by rw [hG.below.cell (World.block_lt_of_cell? _ _ y1)]; exact y1
         have hg : us 1 = .bool true := hG.pre 1 (dm 1 hdep rfl)
         rw [if_pos (by rw [hy]; exact yb hg)]; unfold Oper.wp execOp; generalize A.eval = ev at e0 ⊢; go_simp; exact hK _ _ (hG.first (by first | rfl | (simp; done) | (simp; omega) | (simp; assumption)))
       · intro dn us w6 A hev hy hG hdn hdep K hK
         have e0 : A.eval (.tmp 64) = .int .u64 (s.key node) := by rw [hev]; exact hG.pre 2 (dm 2 hdep rfl)
         have e1 : A.eval (.tmp 69) = .int .u64 c.key := by rw [hev]; exact hG.pre 7 (dm 7 hdep rfl)
         have hle := HLO.out
         have hg : us 1 = .bool true := hG.pre 1 (dm 1 hdep rfl)
         rw [if_pos (by rw [hy]; exact yb hg)]; unfold Oper.wp execOp; generalize A.eval = ev at e0 e1 ⊢; go_simp; exact hK _ _ (hG.first (by first | rfl | (simp; done) | (simp; omega) | (simp; assumption)))
       · intro dn us w6 A hev hy hG hdn hdep K hK
         have e0 : A.eval (.tmp 63) = .bool true := by rw [hev]; exact hG.pre 1 (dm 1 hdep rfl)
         have e1 : A.eval (.tmp 70) = .bool true := by rw [hev]; exact hG.pre 8 (dm 8 hdep rfl)
         have e2 : A.eval (.const (.bool false)) = .bool false := by rw [hev]; rfl
         rw [if_pos (by rfl)]; unfold Oper.wp execOp; generalize A.eval = ev at e0 e1 e2 ⊢; go_simp; exact hK _ _ (hG.first (by first | rfl | (simp; done) | (simp; omega) | (simp; assumption)))
       · intro dn us w6 A hev hy hG hdn hdep K hK
         have e0 : A.eval (.tmp 71) = .bool true := by rw [hev]; exact hG.pre 9 (dm 9 hdep rfl)
         rw [if_pos (by rfl)]; unfold Oper.wp execOp; generalize A.eval = ev at e0 ⊢; go_simp; exact hK _ _ (hG.first (by first | rfl | (simp; done) | (simp; omega) | (simp; assumption)))
       · intro dn us w6 A hev hy hG hdn hdep K hK
         have e0 : A.eval (.tmp 5) = .pointer (some ⟨g5, 0, none⟩) := by rw [hev]; rfl
         have cc0 : w6.cell? ⟨g5, 0, none⟩ = some (.int .u64 (s.key node)) := by rw [hG.below.cell (World.block_lt_of_cell? _ _ k5)]; exact k5
         have hg : us 10 = .bool true := hG.pre 10 (dm 10 hdep rfl)
         rw [if_pos (by rw [hy]; exact yb hg)]; unfold Oper.wp execOp; generalize A.eval = ev at e0 ⊢; go_simp; exact hK _ _ (hG.first (by first | rfl | (simp; done) | (simp; omega) | (simp; assumption)))
       · intro dn us w6 A hev hy hG hdn hdep K hK
         have e0 : A.eval (.tmp 0) = .pointer (some ⟨b, 0, none⟩) := by rw [hev]; rfl
         have hg : us 10 = .bool true := hG.pre 10 (dm 10 hdep rfl)
         rw [if_pos (by rw [hy]; exact yb hg)]; unfold Oper.wp execOp; generalize A.eval = ev at e0 ⊢; go_simp; exact hK _ _ (hG.first (by first | rfl | (simp; done) | (simp; omega) | (simp; assumption)))
       · intro dn us w6 A hev hy hG hdn hdep K hK
         have e0 : A.eval (.tmp 74) = .pointer (some ⟨b, 0, none⟩) := by rw [hev]; exact hG.pre 12 (dm 12 hdep rfl)
         have hg : us 10 = .bool true := hG.pre 10 (dm 10 hdep rfl)
         rw [if_pos (by rw [hy]; exact yb hg)]; unfold Oper.wp execOp; generalize A.eval = ev at e0 ⊢; go_simp; exact hK _ _ (hG.first (by first | rfl | (simp; done) | (simp; omega) | (simp; assumption)))
       · intro dn us w6 A hev hy hG hdn hdep K hK
         have e0 : A.eval (.tmp 75) = .pointer (some ⟨b, 0, none⟩) := by rw [hev]; exact hG.pre 13 (dm 13 hdep rfl)
         have hg : us 10 = .bool true := hG.pre 10 (dm 10 hdep rfl)
         rw [if_pos (by rw [hy]; exact yb hg)]; unfold Oper.wp execOp; generalize A.eval = ev at e0 ⊢; go_simp; exact hK _ _ (hG.first (by first | rfl | (simp; done) | (simp; omega) | (simp; assumption)))
       · intro dn us w6 A hev hy hG hdn hdep K hK
         have e0 : A.eval (.tmp 76) = .pointer (some ⟨b, 0, none⟩) := by rw [hev]; exact hG.pre 14 (dm 14 hdep rfl)
         have hg : us 10 = .bool true := hG.pre 10 (dm 10 hdep rfl)
         rw [if_pos (by rw [hy]; exact yb hg)]; unfold Oper.wp execOp; generalize A.eval = ev at e0 ⊢; go_simp; exact hK _ _ (hG.first (by first | rfl | (simp; done) | (simp; omega) | (simp; assumption)))
       · intro dn us w6 A hev hy hG hdn hdep K hK
         have e0 : A.eval (.tmp 77) = .pointer (some ⟨b, 2, none⟩) := by rw [hev]; exact hG.pre 15 (dm 15 hdep rfl)
         have cc0 : w6.cell? ⟨b, 2, none⟩ = some (.int .u64 c.val) := by rw [hG.below.cell (World.block_lt_of_cell? _ _ y2)]; exact y2
         have hg : us 10 = .bool true := hG.pre 10 (dm 10 hdep rfl)
         rw [if_pos (by rw [hy]; exact yb hg)]; unfold Oper.wp execOp; generalize A.eval = ev at e0 ⊢; go_simp; exact hK _ _ (hG.first (by first | rfl | (simp; done) | (simp; omega) | (simp; assumption)))
       · intro dn us w6 A hev hy hG hdn hdep K hK
         have e0 : A.eval (.tmp 73) = .int .u64 (s.key node) := by rw [hev]; exact hG.pre 11 (dm 11 hdep rfl)
         have e1 : A.eval (.tmp 78) = .int .u64 c.val := by rw [hev]; exact hG.pre 16 (dm 16 hdep rfl)
         have hle := HHI.out
         have hg : us 10 = .bool true := hG.pre 10 (dm 10 hdep rfl)
         rw [if_pos (by rw [hy]; exact yb hg)]; unfold Oper.wp execOp; generalize A.eval = ev at e0 e1 ⊢; go_simp; exact hK _ _ (hG.first (by first | rfl | (simp; done) | (simp; omega) | (simp; assumption)))
       · intro dn us w6 A hev hy hG hdn hdep K hK
         have e0 : A.eval (.tmp 72) = .bool true := by rw [hev]; exact hG.pre 10 (dm 10 hdep rfl)
         have e1 : A.eval (.tmp 79) = .bool true := by rw [hev]; exact hG.pre 17 (dm 17 hdep rfl)
         have e2 : A.eval (.const (.bool false)) = .bool false := by rw [hev]; rfl
         rw [if_pos (by rfl)]; unfold Oper.wp execOp; generalize A.eval = ev at e0 e1 e2 ⊢; go_simp; exact hK _ _ (hG.first (by first | rfl | (simp; done) | (simp; omega) | (simp; assumption)))
       · intro dn us w6 A hev hy hG hdn hdep K hK
         have e0 : A.eval (.tmp 80) = .bool true := by rw [hev]; exact hG.pre 18 (dm 18 hdep rfl)
         rw [if_pos (by rfl)]; unfold Oper.wp execOp; generalize A.eval = ev at e0 ⊢; go_simp; exact hK _ _ (hG.first (by first | rfl | (simp; done) | (simp; omega) | (simp; assumption)))
       · intro dn us w6 A hev hy hG hdn hdep K hK
         have e0 : A.eval (.tmp 7) = .func (.func 145) #[] #[.pointer (some ⟨g5, 0, none⟩)] := by rw [hev]; rfl
         have hg : us 19 = .bool true := hG.pre 19 (dm 19 hdep rfl)
         rw [if_pos (by rw [hy]; exact yb hg)]; unfold Oper.wp execOp; generalize A.eval = ev at e0 ⊢; go_simp; exact hK _ _ (hG.first (by first | rfl | (simp; done) | (simp; omega) | (simp; assumption)))
       · intro dn us w6 A hev hy hG hdn hdep K hK
         have e0 : A.eval (.tmp 8) = .slice ao l.length cap := by rw [hev]; rfl
         have hg : us 19 = .bool true := hG.pre 19 (dm 19 hdep rfl)
         rw [if_pos (by rw [hy]; exact yb hg)]; unfold Oper.wp execOp; generalize A.eval = ev at e0 ⊢; go_simp; exact hK _ _ (hG.first (by first | rfl | (simp; done) | (simp; omega) | (simp; assumption)))
       · intro dn us w6 A hev hy hG hdn hdep K hK
         have e0 : A.eval (.tmp 82) = .func (.func 145) #[] #[.pointer (some ⟨g5, 0, none⟩)] := by rw [hev]; exact hG.pre 20 (dm 20 hdep rfl)
         have e1 : A.eval (.tmp 83) = .slice ao l.length cap := by rw [hev]; exact hG.pre 21 (dm 21 hdep rfl)
         have hg : us 19 = .bool true := hG.pre 19 (dm 19 hdep rfl)
         rw [if_pos (by rw [hy]; exact yb hg)]; unfold Oper.wp execOp; generalize A.eval = ev at e0 e1 ⊢; go_simp; refine (fresh_any (s.key node) g5 w6 (HPU.out.below hG.below) HLL.out (by rw [hG.below.cell (World.block_lt_of_cell? _ _ k5)]; exact k5)).mono ?_
         rintro e wq ⟨rfl, hb⟩
         exact hK _ _ (hG.called (by show Value.bool _ = Value.bool _; rw [HFR.out]) hb)
       · intro dn us w6 A hev hy hG hdn hdep K hK
         have e0 : A.eval (.tmp 81) = .bool true := by rw [hev]; exact hG.pre 19 (dm 19 hdep rfl)
         have e1 : A.eval (.tmp 84) = .bool false := by rw [hev]; exact hG.pre 22 (dm 22 hdep rfl)
         have e2 : A.eval (.const (.bool false)) = .bool false := by rw [hev]; rfl
         rw [if_pos (by rfl)]; unfold Oper.wp execOp; generalize A.eval = ev at e0 e1 e2 ⊢; go_simp; exact hK _ _ (hG.first (by first | rfl | (simp; done) | (simp; omega) | (simp; assumption)))
       intro dn us w6 hG hall
       have u23 : us 23 = .bool false := hG.pre 23 (hall 23 (by decide))
       have D6 := hG.below
       simp only [fillA, fillT, Nat.reduceAdd, List.setIfInBounds_toArray, List.set_cons_zero, List.set_cons_succ, u23]
       clear hG hall u23
       go_wp2_with fail
       go_end0
       exact ⟨rfl, HH3.out.below (D4.trans ((D5.trans (D6.mono D5.size)).mono D4.size)), by rw [HJ.out]; exact ⟨_, A5.below' D6, ((HI3.out.below D4).below D5).below D6, O3.thenBelow (D4.trans ((D5.trans (D6.mono D5.size)).mono D4.size))⟩⟩
      | true =>
       have HFR := Lib.hid hfr
       have HJ := Lib.hid (show s.judgeL c node (s.peek (s.wordAt (s.carried node))) l = l ++ [((s.key node), (s.call (s.carried node)).val)] from if_pos ⟨HV.out, HLO.out, HHI.out, HFR.out⟩)
       clear hfr
       refine wp_region_J (l := [_, _, _, _, _, _, _, _, _, _, _, _, _, _, _, _, _, _, _, _, _, _, _, _]) (QG (fun j v => match j with | 0 => v = .bool true | 1 => v = .bool true | 2 => v = .int .u64 (s.key node) | 3 => v = .pointer (some ⟨b, 0, none⟩) | 4 => v = .pointer (some ⟨b, 0, none⟩) | 5 => v = .pointer (some ⟨b, 0, none⟩) | 6 => v = .pointer (some ⟨b, 1, none⟩) | 7 => v = .int .u64 c.key | 8 => v = .bool true | 9 => v = .bool true | 10 => v = .bool true | 11 => v = .int .u64 (s.key node) | 12 => v = .pointer (some ⟨b, 0, none⟩) | 13 => v = .pointer (some ⟨b, 0, none⟩) | 14 => v = .pointer (some ⟨b, 0, none⟩) | 15 => v = .pointer (some ⟨b, 2, none⟩) | 16 => v = .int .u64 c.val | 17 => v = .bool true | 18 => v = .bool true | 19 => v = .bool true | 20 => v = .func (.func 145) #[] #[.pointer (some ⟨g5, 0, none⟩)] | 21 => v = .slice ao l.length cap | 22 => v = .bool true | 23 => v = .bool true | _ => True) w5) (by kernel_rfl) (by kernel_rfl) (fun us => QG.start us) ⟨?_, ?_, ?_, ?_, ?_, ?_, ?_, ?_, ?_, ?_, ?_, ?_, ?_, ?_, ?_, ?_, ?_, ?_, ?_, ?_, ?_, ?_, ?_, ?_, trivial⟩ ?_
       · intro dn us w6 A hev hy hG hdn hdep K hK
         have e0 : A.eval (.tmp 6) = .bool true := by rw [hev]; rfl
         rw [if_pos (by rfl)]; unfold Oper.wp execOp; generalize A.eval = ev at e0 ⊢; go_simp; exact hK _ _ (hG.first (by first | rfl | (simp; done) | (simp; omega) | (simp; assumption)))
       · intro dn us w6 A hev hy hG hdn hdep K hK
         have e0 : A.eval (.tmp 62) = .bool true := by rw [hev]; exact hG.pre 0 (dm 0 hdep rfl)
         rw [if_pos (by rfl)]; unfold Oper.wp execOp; generalize A.eval = ev at e0 ⊢; go_simp; exact hK _ _ (hG.first (by first | rfl | (simp; done) | (simp; omega) | (simp; assumption)))
       · intro dn us w6 A hev hy hG hdn hdep K hK
         have e0 : A.eval (.tmp 5) = .pointer (some ⟨g5, 0, none⟩) := by rw [hev]; rfl
         have cc0 : w6.cell? ⟨g5, 0, none⟩ = some (.int .u64 (s.key node)) := by rw [hG.below.cell (World.block_lt_of_cell? _ _ k5)]; exact k5
         have hg : us 1 = .bool true := hG.pre 1 (dm 1 hdep rfl)
         rw [if_pos (by rw [hy]; exact yb hg)]; unfold Oper.wp execOp; generalize A.eval = ev at e0 ⊢; go_simp; exact hK _ _ (hG.first (by first | rfl | (simp; done) | (simp; omega) | (simp; assumption)))
       · intro dn us w6 A hev hy hG hdn hdep K hK
         have e0 : A.eval (.tmp 0) = .pointer (some ⟨b, 0, none⟩) := by rw [hev]; rfl
         have hg : us 1 = .bool true := hG.pre 1 (dm 1 hdep rfl)
         rw [if_pos (by rw [hy]; exact yb hg)]; unfold Oper.wp execOp; generalize A.eval = ev at e0 ⊢; go_simp; exact hK _ _ (hG.first (by first | rfl | (simp; done) | (simp; omega) | (simp; assumption)))
       · intro dn us w6 A hev hy hG hdn hdep K hK
         have e0 : A.eval (.tmp 65) = .pointer (some ⟨b, 0, none⟩) := by rw [hev]; exact hG.pre 3 (dm 3 hdep rfl)
         have hg : us 1 = .bool true := hG.pre 1 (dm 1 hdep rfl)
         rw [if_pos (by rw [hy]; exact yb hg)]; unfold Oper.wp execOp; generalize A.eval = ev at e0 ⊢; go_simp; exact hK _ _ (hG.first (by first | rfl | (simp; done) | (simp; omega) | (simp; assumption)))
       · intro dn us w6 A hev hy hG hdn hdep K hK
         have e0 : A.eval (.tmp 66) = .pointer (some ⟨b, 0, none⟩) := by rw [hev]; exact hG.pre 4 (dm 4 hdep rfl)
         have hg : us 1 = .bool true := hG.pre 1 (dm 1 hdep rfl)
         rw [if_pos (by rw [hy]; exact yb hg)]; unfold Oper.wp execOp; generalize A.eval = ev at e0 ⊢; go_simp; exact hK _ _ (hG.first (by first | rfl | (simp; done) | (simp; omega) | (simp; assumption)))
       · intro dn us w6 A hev hy hG hdn hdep K hK
         have e0 : A.eval (.tmp 67) = .pointer (some ⟨b, 0, none⟩) := by rw [hev]; exact hG.pre 5 (dm 5 hdep rfl)
         have hg : us 1 = .bool true := hG.pre 1 (dm 1 hdep rfl)
         rw [if_pos (by rw [hy]; exact yb hg)]; unfold Oper.wp execOp; generalize A.eval = ev at e0 ⊢; go_simp; exact hK _ _ (hG.first (by first | rfl | (simp; done) | (simp; omega) | (simp; assumption)))
       · intro dn us w6 A hev hy hG hdn hdep K hK
         have e0 : A.eval (.tmp 68) = .pointer (some ⟨b, 1, none⟩) := by rw [hev]; exact hG.pre 6 (dm 6 hdep rfl)
         have cc0 : w6.cell? ⟨b, 1, none⟩ = some (.int .u64 c.key) := by rw [hG.below.cell (World.block_lt_of_cell? _ _ y1)]; exact y1
         have hg : us 1 = .bool true := hG.pre 1 (dm 1 hdep rfl)
         rw [if_pos (by rw [hy]; exact yb hg)]; unfold Oper.wp execOp; generalize A.eval = ev at e0 ⊢; go_simp; exact hK _ _ (hG.first (by first | rfl | (simp; done) | (simp; omega) | (simp; assumption)))
       · intro dn us w6 A hev hy hG hdn hdep K hK
         have e0 : A.eval (.tmp 64) = .int .u64 (s.key node) := by rw [hev]; exact hG.pre 2 (dm 2 hdep rfl)
         have e1 : A.eval (.tmp 69) = .int .u64 c.key := by rw [hev]; exact hG.pre 7 (dm 7 hdep rfl)
         have hle := HLO.out
         have hg : us 1 = .bool true := hG.pre 1 (dm 1 hdep rfl)
         rw [if_pos (by rw [hy]; exact yb hg)]; unfold Oper.wp execOp; generalize A.eval = ev at e0 e1 ⊢; go_simp; exact hK _ _ (hG.first (by first | rfl | (simp; done) | (simp; omega) | (simp; assumption)))
       · intro dn us w6 A hev hy hG hdn hdep K hK
         have e0 : A.eval (.tmp 63) = .bool true := by rw [hev]; exact hG.pre 1 (dm 1 hdep rfl)
         have e1 : A.eval (.tmp 70) = .bool true := by rw [hev]; exact hG.pre 8 (dm 8 hdep rfl)
         have e2 : A.eval (.const (.bool false)) = .bool false := by rw [hev]; rfl
         rw [if_pos (by rfl)]; unfold Oper.wp execOp; generalize A.eval = ev at e0 e1 e2 ⊢; go_simp; exact hK _ _ (hG.first (by first | rfl | (simp; done) | (simp; omega) | (simp; assumption)))
       · intro dn us w6 A hev hy hG hdn hdep K hK
         have e0 : A.eval (.tmp 71) = .bool true := by rw [hev]; exact hG.pre 9 (dm 9 hdep rfl)
         rw [if_pos (by rfl)]; unfold Oper.wp execOp; generalize A.eval = ev at e0 ⊢; go_simp; exact hK _ _ (hG.first (by first | rfl | (simp; done) | (simp; omega) | (simp; assumption)))
       · intro dn us w6 A hev hy hG hdn hdep K hK
         have e0 : A.eval (.tmp 5) = .pointer (some ⟨g5, 0, none⟩) := by rw [hev]; rfl
         have cc0 : w6.cell? ⟨g5, 0, none⟩ = some (.int .u64 (s.key node)) := by rw [hG.below.cell (World.block_lt_of_cell? _ _ k5)]; exact k5
         have hg : us 10 = .bool true := hG.pre 10 (dm 10 hdep rfl)
         rw [if_pos (by rw [hy]; exact yb hg)]; unfold Oper.wp execOp; generalize A.eval = ev at e0 ⊢; go_simp; exact hK _ _ (hG.first (by first | rfl | (simp; done) | (simp; omega) | (simp; assumption)))
       · intro dn us w6 A hev hy hG hdn hdep K hK
         have e0 : A.eval (.tmp 0) = .pointer (some ⟨b, 0, none⟩) := by rw [hev]; rfl
         have hg : us 10 = .bool true := hG.pre 10 (dm 10 hdep rfl)
         rw [if_pos (by rw [hy]; exact yb hg)]; unfold Oper.wp execOp; generalize A.eval = ev at e0 ⊢; go_simp; exact hK _ _ (hG.first (by first | rfl | (simp; done) | (simp; omega) | (simp; assumption)))
       · intro dn us w6 A hev hy hG hdn hdep K hK
         have e0 : A.eval (.tmp 74) = .pointer (some ⟨b, 0, none⟩) := by rw [hev]; exact hG.pre 12 (dm 12 hdep rfl)
         have hg : us 10 = .bool true := hG.pre 10 (dm 10 hdep rfl)
         rw [if_pos (by rw [hy]; exact yb hg)]; unfold Oper.wp execOp; generalize A.eval = ev at e0 ⊢; go_simp; exact hK _ _ (hG.first (by first | rfl | (simp; done) | (simp; omega) | (simp; assumption)))
       · intro dn us w6 A hev hy hG hdn hdep K hK
         have e0 : A.eval (.tmp 75) = .pointer (some ⟨b, 0, none⟩) := by rw [hev]; exact hG.pre 13 (dm 13 hdep rfl)
         have hg : us 10 = .bool true := hG.pre 10 (dm 10 hdep rfl)
         rw [if_pos (by rw [hy]; exact yb hg)]; unfold Oper.wp execOp; generalize A.eval = ev at e0 ⊢; go_simp; exact hK _ _ (hG.first (by first | rfl | (simp; done) | (simp; omega) | (simp; assumption)))
       · intro dn us w6 A hev hy hG hdn hdep K hK
         have e0 : A.eval (.tmp 76) = .pointer (some ⟨b, 0, none⟩) := by rw [hev]; exact hG.pre 14 (dm 14 hdep rfl)
         have hg : us 10 = .bool true := hG.pre 10 (dm 10 hdep rfl)
         rw [if_pos (by rw [hy]; exact yb hg)]; unfold Oper.wp execOp; generalize A.eval = ev at e0 ⊢; go_simp; exact hK _ _ (hG.first (by first | rfl | (simp; done) | (simp; omega) | (simp; assumption)))
       · intro dn us w6 A hev hy hG hdn hdep K hK
         have e0 : A.eval (.tmp 77) = .pointer (some ⟨b, 2, none⟩) := by rw [hev]; exact hG.pre 15 (dm 15 hdep rfl)
         have cc0 : w6.cell? ⟨b, 2, none⟩ = some (.int .u64 c.val) := by rw [hG.below.cell (World.block_lt_of_cell? _ _ y2)]; exact y2
         have hg : us 10 = .bool true := hG.pre 10 (dm 10 hdep rfl)
         rw [if_pos (by rw [hy]; exact yb hg)]; unfold Oper.wp execOp; generalize A.eval = ev at e0 ⊢; go_simp; exact hK _ _ (hG.first (by first | rfl | (simp; done) | (simp; omega) | (simp; assumption)))
       · intro dn us w6 A hev hy hG hdn hdep K hK
         have e0 : A.eval (.tmp 73) = .int .u64 (s.key node) := by rw [hev]; exact hG.pre 11 (dm 11 hdep rfl)
         have e1 : A.eval (.tmp 78) = .int .u64 c.val := by rw [hev]; exact hG.pre 16 (dm 16 hdep rfl)
         have hle := HHI.out
         have hg : us 10 = .bool true := hG.pre 10 (dm 10 hdep rfl)
         rw [if_pos (by rw [hy]; exact yb hg)]; unfold Oper.wp execOp; generalize A.eval = ev at e0 e1 ⊢; go_simp; exact hK _ _ (hG.first (by first | rfl | (simp; done) | (simp; omega) | (simp; assumption)))
       · intro dn us w6 A hev hy hG hdn hdep K hK
         have e0 : A.eval (.tmp 72) = .bool true := by rw [hev]; exact hG.pre 10 (dm 10 hdep rfl)
         have e1 : A.eval (.tmp 79) = .bool true := by rw [hev]; exact hG.pre 17 (dm 17 hdep rfl)
         have e2 : A.eval (.const (.bool false)) = .bool false := by rw [hev]; rfl
         rw [if_pos (by rfl)]; unfold Oper.wp execOp; generalize A.eval = ev at e0 e1 e2 ⊢; go_simp; exact hK _ _ (hG.first (by first | rfl | (simp; done) | (simp; omega) | (simp; assumption)))
       · intro dn us w6 A hev hy hG hdn hdep K hK
         have e0 : A.eval (.tmp 80) = .bool true := by rw [hev]; exact hG.pre 18 (dm 18 hdep rfl)
         rw [if_pos (by rfl)]; unfold Oper.wp execOp; generalize A.eval = ev at e0 ⊢; go_simp; exact hK _ _ (hG.first (by first | rfl | (simp; done) | (simp; omega) | (simp; assumption)))
       · intro dn us w6 A hev hy hG hdn hdep K hK
         have e0 : A.eval (.tmp 7) = .func (.func 145) #[] #[.pointer (some ⟨g5, 0, none⟩)] := by rw [hev]; rfl
         have hg : us 19 = .bool true := hG.pre 19 (dm 19 hdep rfl)
         rw [if_pos (by rw [hy]; exact yb hg)]; unfold Oper.wp execOp; generalize A.eval = ev at e0 ⊢; go_simp; exact hK _ _ (hG.first (by first | rfl | (simp; done) | (simp; omega) | (simp; assumption)))
       · intro dn us w6 A hev hy hG hdn hdep K hK
         have e0 : A.eval (.tmp 8) = .slice ao l.length cap := by rw [hev]; rfl
         have hg : us 19 = .bool true := hG.pre 19 (dm 19 hdep rfl)
         rw [if_pos (by rw [hy]; exact yb hg)]; unfold Oper.wp execOp; generalize A.eval = ev at e0 ⊢; go_simp; exact hK _ _ (hG.first (by first | rfl | (simp; done) | (simp; omega) | (simp; assumption)))
       · intro dn us w6 A hev hy hG hdn hdep K hK
         have e0 : A.eval (.tmp 82) = .func (.func 145) #[] #[.pointer (some ⟨g5, 0, none⟩)] := by rw [hev]; exact hG.pre 20 (dm 20 hdep rfl)
         have e1 : A.eval (.tmp 83) = .slice ao l.length cap := by rw [hev]; exact hG.pre 21 (dm 21 hdep rfl)
         have hg : us 19 = .bool true := hG.pre 19 (dm 19 hdep rfl)
         rw [if_pos (by rw [hy]; exact yb hg)]; unfold Oper.wp execOp; generalize A.eval = ev at e0 e1 ⊢; go_simp; refine (fresh_any (s.key node) g5 w6 (HPU.out.below hG.below) HLL.out (by rw [hG.below.cell (World.block_lt_of_cell? _ _ k5)]; exact k5)).mono ?_
         rintro e wq ⟨rfl, hb⟩
         exact hK _ _ (hG.called (by show Value.bool _ = Value.bool _; rw [HFR.out]) hb)
       · intro dn us w6 A hev hy hG hdn hdep K hK
         have e0 : A.eval (.tmp 81) = .bool true := by rw [hev]; exact hG.pre 19 (dm 19 hdep rfl)
         have e1 : A.eval (.tmp 84) = .bool true := by rw [hev]; exact hG.pre 22 (dm 22 hdep rfl)
         have e2 : A.eval (.const (.bool false)) = .bool false := by rw [hev]; rfl
         rw [if_pos (by rfl)]; unfold Oper.wp execOp; generalize A.eval = ev at e0 e1 e2 ⊢; go_simp; exact hK _ _ (hG.first (by first | rfl | (simp; done) | (simp; omega) | (simp; assumption)))
       intro dn us w6 hG hall
       have u23 : us 23 = .bool true := hG.pre 23 (hall 23 (by decide))
       have D6 := hG.below
       simp only [fillA, fillT, Nat.reduceAdd, List.setIfInBounds_toArray, List.set_cons_zero, List.set_cons_succ, u23]
       clear hG hall u23
       have A6 := A5.below' D6
       have K6 := K5.below' D6
       have HH6 := Lib.hid (((HH3.out.below D4).below D5).below D6)
       have HPU6 := Lib.hid (HPU.out.below D6)
       have hcall : Calls Tryz.prog 97 #[.pointer (some ⟨k.bb, 0, none⟩), .int .i64 (s.carried node)] w6 fun e w' => e = .returned (.tuple #[.agg #[.int .i64 (s.call (s.carried node)).kind, .int .u64 (s.call (s.carried node)).key, .int .u64 (s.call (s.carried node)).val, .int .i64 (s.call (s.carried node)).limit], .int .i64 (errNo (s.callOf (s.carried node)).isSome)]) ∧ Below w6.heap.size w6 w' := callof_any (s := s.load (s.wordAt (s.carried node))) (s.carried node) w6 HH6.out
       have HCL := Lib.hid hcall
       obtain ⟨-, -, g6, gl6⟩ := HH6.out.wfacts
       have D46 : Below w3.heap.size w3 w6 := D4.trans ((D5.trans (D6.mono D5.size)).mono D4.size)
       clear hcall k5 y1 y2 A5 K5 D4 D5 D6
       go_upto_region 8 with (first
         | (refine wpl_st rfl 28 _ _ rfl #[.int .i64 (s.call (s.carried node)).kind, .int .u64 (s.call (s.carried node)).key, .int .u64 (s.call (s.carried node)).val, .int .i64 (s.call (s.carried node)).limit] rfl _ rfl (At.new w7 _ _) (by kernel_rfl) rfl rfl rfl ?_; intro w8 C8 O8)
         | (go_at_call 97; refine HCL.out.mono ?_; rintro e w7 ⟨rfl, hb7⟩))
       have D8 : Below w6.heap.size w6 w8 := hb7.trans ((((Below.refl _ w7).alloc (Nat.le_refl _) _).trans (O8.below (by simp) fun j hj e => by have e' : j = w7.heap.size := e; omega)).mono hb7.size)
       have A8 := A6.below' D8
       have y8 : w8.cell? ⟨b, 8, none⟩ = some (.slice (some ⟨lb, lo, none⟩) 1 lc) := A8.cell 8
       have z7 := C8.lt
       clear hb7 O8 g6 gl6
       obtain ⟨ii, hii, hiz0, hiz1, hiz2⟩ := info_parts pairsinfo
       have hrun := fun W => run_make (P := Tryz.prog) W 47 49 ii (.slice none 0 0) Tryz.underlying47 hii hiz0 .i64 .i64 1 1 (by decide) (by decide) (by rw [hiz2]; decide) (by decide)
       go_upto_region 9 with (rw [hrun])
       have B9 := cells_at (At.new w8 49 (madeCells #[.slice none 0 0] 1)) (made_one _)
       have D9 : Below w8.heap.size w8 (w8.alloc (.cells (madeCells #[.slice none 0 0] 1) 49)) := (Below.refl _ w8).alloc (Nat.le_refl _) _
       clear hrun hii hiz0 hiz1 hiz2
       generalize w8.alloc (.cells (madeCells #[.slice none 0 0] 1) 49) = wA at *
       have y8 : wA.cell? ⟨b, 8, none⟩ = some (.slice (some ⟨lb, lo, none⟩) 1 lc) := (A8.below' D9).cell 8
       have cuA : wA.cell? ⟨lb, lo, none⟩ = some (.slice ao l.length cap) := by
         rw [D9.cell (Nat.lt_of_lt_of_le (World.block_lt_of_cell? _ _ CU3.out) (Nat.le_trans D46.size D8.size)), D8.cell (Nat.lt_of_lt_of_le (World.block_lt_of_cell? _ _ CU3.out) D46.size), D46.cell (World.block_lt_of_cell? _ _ CU3.out)]
         exact CU3.out
       go_upto_region 10 with (refine wpList_copy_own rfl (.tmp 101) (.tmp 105) 47 47 rfl 49 Tryz.underlying47 (by kernel_rfl) w8.heap.size 0 1 1 ⟨lb, lo, none⟩ 1 lc rfl rfl #[.slice none 0 0] 49 B9 [.slice ao l.length cap] rfl ?k1 ?k2 ?k3 ?_)
       case k1 =>
         intro j u hu
         match j, hu with
         | 0, hu => cases hu; exact cuA
         | _ + 1, hu => cases hu
       case k2 => exact Nat.le_refl 1
       case k3 => intro u hu; simp at hu; rcases hu with rfl; rfl
       have AA9 : At (wA.setRow w8.heap.size #[.slice ao l.length cap]) w8.heap.size 49 #[.slice ao l.length cap] := setRow_heap wA w8.heap.size _ _ _ _ B9
       have DS : Below w8.heap.size w8 (wA.setRow w8.heap.size #[.slice ao l.length cap]) := below_setRow D9 (Nat.le_refl _) _
       show Code.wp _ _ _ _ (wA.setRow w8.heap.size #[.slice ao l.length cap])
       simp only [Act.put, List.setIfInBounds_toArray, List.set_cons_succ, List.set_cons_zero]
       have hog := (HH6.out.below D8).out (Nat.le_refl w8.heap.size)
       generalize hga : w8.heap.size = ga at *
       have HOG := Lib.hid hog
       clear hog
       generalize wA.setRow ga #[.slice ao l.length cap] = w9 at *
       have HGA := Lib.hid hga
       clear hga
       have D39 : Below w3.heap.size w3 w9 := D46.trans ((D8.trans (DS.mono (by rw [← HGA.out]; exact D8.size))).mono D46.size)
       have z8 : w8.heap.size ≤ w9.heap.size := by have := DS.size; have := HGA.out; omega
       have zga := AA9.lt
       have A9 : At w9 b 53 (Scn.cells ⟨c, phase, 0, node, next, [l], dn0, er, rd, prs⟩ (.slice (some ⟨lb, lo, none⟩) 1 lc) pv) := A8.below DS (by have := A8.lt; rw [← HGA.out]; exact this)
       have K9 : At w9 g5 26 #[.int .u64 (s.key node)] := (K6.below' D8).below DS (by have := (K6.below' D8).lt; rw [← HGA.out]; exact this)
       have C9 : At w9 w7.heap.size 28 #[.int .i64 (s.call (s.carried node)).kind, .int .u64 (s.call (s.carried node)).key, .int .u64 (s.call (s.carried node)).val, .int .i64 (s.call (s.carried node)).limit] := C8.below DS z7
       have zb : b < ga := by rw [← HGA.out]; exact A8.lt
       have zw : w.heap.size ≤ ga := by have := O3.size; have := D46.size; have := D8.size; have := HGA.out; omega
       have HPU9 := Lib.hid (show PairsIn w9 (fun z => N z ∧ z ≠ ga) (.slice ao l.length cap) l from ((HPU6.out.below D8).go (w' := w9) (M := fun z => N z ∧ z ≠ ga) (fun z hz hl => ⟨hz, by have := HGA.out; omega⟩) (fun z _ hl => DS.block z (by have := HGA.out; omega))))
       have LW9 := Lib.hid (show w.heap.size ≤ w9.heap.size by omega)
       have LGA := Lib.hid zga
       have y5 : w9.cell? ⟨b, 5, none⟩ = some (.int .i64 0) := A9.cell 5
       have k5 : w9.cell? ⟨g5, 0, none⟩ = some (.int .u64 (s.key node)) := K9.cell 0
       have v9 : w9.cell? ⟨w7.heap.size, 2, none⟩ = some (.int .u64 (s.call (s.carried node)).val) := C9.cell 2
       generalize w7.heap.size = g9 at *
       clear A8 K6 C8 DS D8 B9 A6 y8 D9 cuA z7 K9 C9
       have M1 := Lib.hid (show ∀ (w w' : World) (v : Value), (∃ g, v = .slice (some ⟨g, 0, none⟩) 1 1 ∧ w9.heap.size ≤ g ∧ At w g 103 #[.int .u64 (s.key node), .int .u64 (s.call (s.carried node)).val]) → Below w.heap.size w w' → (∃ g, v = .slice (some ⟨g, 0, none⟩) 1 1 ∧ w9.heap.size ≤ g ∧ At w' g 103 #[.int .u64 (s.key node), .int .u64 (s.call (s.carried node)).val]) from fun _ _ _ ⟨g, a, b, h⟩ hb => ⟨g, a, b, h.below' hb⟩)
       have M2 := Lib.hid (show ∀ (w w' : World) (v : Value), PairsIn w (fun z => N z ∧ z ≠ ga) v (l ++ [((s.key node), (s.call (s.carried node)).val)]) → Below w.heap.size w w' → PairsIn w' (fun z => N z ∧ z ≠ ga) v (l ++ [((s.key node), (s.call (s.carried node)).val)]) from fun _ _ _ h hb => h.below hb)
       refine wp_region_C (l := [_, _, _, _, _, _, _, _, _, _, _, _, _, _, _]) (LG 14 (FL (fun j v => match j with | 0 => v = .slice (some ⟨ga, 0, none⟩) 1 1 | 1 => v = .pointer (some ⟨b, 0, none⟩) | 2 => v = .pointer (some ⟨b, 0, none⟩) | 3 => v = .pointer (some ⟨b, 5, none⟩) | 4 => v = .int .i64 0 | 5 => v = .slice ao l.length cap | 6 => v = .slice ao l.length l.length | 7 => v = .int .u64 (s.key node) | 8 => v = .pointer (some ⟨g9, 2, none⟩) | 9 => v = .int .u64 (s.call (s.carried node)).val | 10 => v = .agg #[.int .u64 (s.key node), .int .u64 (s.call (s.carried node)).val] | 13 => v = .pointer (some ⟨ga, 0, none⟩) | _ => True) 11 12 (fun w v => ∃ g, v = .slice (some ⟨g, 0, none⟩) 1 1 ∧ w9.heap.size ≤ g ∧ At w g 103 #[.int .u64 (s.key node), .int .u64 (s.call (s.carried node)).val]) (fun w v => PairsIn w (fun z => N z ∧ z ≠ ga) v (l ++ [((s.key node), (s.call (s.carried node)).val)]))) w9 (fun _ w => ∃ u, At w ga 49 #[u] ∧ PairsIn w (fun z => N z ∧ z ≠ ga) u (l ++ [((s.key node), (s.call (s.carried node)).val)]) ∧ Only (fun j => j = ga) w9 w)) (by kernel_rfl) (by kernel_rfl) (fun us => LG.start us) ⟨?_, ?_, ?_, ?_, ?_, ?_, ?_, ?_, ?_, ?_, ?_, ?_, ?_, ?_, ?_, trivial⟩ ?_
       · intro dn us w6 A hev hy hG hcl hdn hdep K hK
         have e0 : A.eval (.tmp 11) = .slice (some ⟨ga, 0, none⟩) 1 1 := by rw [hev]; rfl
         rw [if_pos (by rfl)]; unfold Oper.wp execOp; generalize A.eval = ev at e0 ⊢; go_simp; exact hK _ _ (hG.plain hdn (by decide) (by decide) (by decide) (by first | rfl | (simp; done) | (simp; omega) | (simp; assumption)))
       · intro dn us w6 A hev hy hG hcl hdn hdep K hK
         have e0 : A.eval (.tmp 0) = .pointer (some ⟨b, 0, none⟩) := by rw [hev]; rfl
         rw [if_pos (by rfl)]; unfold Oper.wp execOp; generalize A.eval = ev at e0 ⊢; go_simp; exact hK _ _ (hG.plain hdn (by decide) (by decide) (by decide) (by first | rfl | (simp; done) | (simp; omega) | (simp; assumption)))
       · intro dn us w6 A hev hy hG hcl hdn hdep K hK
         have d1 : dn 1 = true := allD_mem hdep (by decide)
         have e0 : A.eval (.tmp 108) = .pointer (some ⟨b, 0, none⟩) := by rw [hev]; exact hG.val hdn (by decide) d1
         rw [if_pos (by rfl)]; unfold Oper.wp execOp; generalize A.eval = ev at e0 ⊢; go_simp; exact hK _ _ (hG.plain hdn (by decide) (by decide) (by decide) (by first | rfl | (simp; done) | (simp; omega) | (simp; assumption)))
       · intro dn us w6 A hev hy hG hcl hdn hdep K hK
         have d2 : dn 2 = true := allD_mem hdep (by decide)
         have e0 : A.eval (.tmp 109) = .pointer (some ⟨b, 0, none⟩) := by rw [hev]; exact hG.val hdn (by decide) d2
         rw [if_pos (by rfl)]; unfold Oper.wp execOp; generalize A.eval = ev at e0 ⊢; go_simp; exact hK _ _ (hG.plain hdn (by decide) (by decide) (by decide) (by first | rfl | (simp; done) | (simp; omega) | (simp; assumption)))
       · intro dn us w6 A hev hy hG hcl hdn hdep K hK
         have d3 : dn 3 = true := allD_mem hdep (by decide)
         have e0 : A.eval (.tmp 110) = .pointer (some ⟨b, 5, none⟩) := by rw [hev]; exact hG.val hdn (by decide) d3
         have hb6 := hG.below (hG.not hdn (by decide))
         have cc0 : w6.cell? ⟨b, 5, none⟩ = some (.int .i64 0) := by rw [hb6.cell (World.block_lt_of_cell? _ _ y5)]; exact y5
         rw [if_pos (by rfl)]; unfold Oper.wp execOp; generalize A.eval = ev at e0 ⊢; go_simp; exact hK _ _ (hG.plain hdn (by decide) (by decide) (by decide) (by first | rfl | (simp; done) | (simp; omega) | (simp; assumption)))
       · intro dn us w6 A hev hy hG hcl hdn hdep K hK
         have e0 : A.eval (.tmp 8) = .slice ao l.length cap := by rw [hev]; rfl
         rw [if_pos (by rfl)]; unfold Oper.wp execOp; generalize A.eval = ev at e0 ⊢; go_simp; exact hK _ _ (hG.plain hdn (by decide) (by decide) (by decide) (by first | rfl | (simp; done) | (simp; omega) | (simp; assumption)))
       · intro dn us w6 A hev hy hG hcl hdn hdep K hK
         have d5 : dn 5 = true := allD_mem hdep (by decide)
         have e0 : A.eval (.tmp 112) = .slice ao l.length cap := by rw [hev]; exact hG.val hdn (by decide) d5
         have ef : A.eval (.func 146) = .func (.func 146) #[] #[] := by rw [hev]; rfl
         rw [if_pos (by rfl)]; unfold Oper.wp execOp; generalize A.eval = ev at e0 ef ⊢; go_simp; refine (clip_any ao l.length cap w6 HCAP.out).mono ?_
         rintro e wq ⟨rfl, rfl⟩
         exact hK _ _ (hG.plain hdn (by decide) (by decide) (by decide) rfl)
       · intro dn us w6 A hev hy hG hcl hdn hdep K hK
         have e0 : A.eval (.tmp 5) = .pointer (some ⟨g5, 0, none⟩) := by rw [hev]; rfl
         have hb6 := hG.below (hG.not hdn (by decide))
         have cc0 : w6.cell? ⟨g5, 0, none⟩ = some (.int .u64 (s.key node)) := by rw [hb6.cell (World.block_lt_of_cell? _ _ k5)]; exact k5
         rw [if_pos (by rfl)]; unfold Oper.wp execOp; generalize A.eval = ev at e0 ⊢; go_simp; exact hK _ _ (hG.plain hdn (by decide) (by decide) (by decide) (by first | rfl | (simp; done) | (simp; omega) | (simp; assumption)))
       · intro dn us w6 A hev hy hG hcl hdn hdep K hK
         have e0 : A.eval (.tmp 9) = .pointer (some ⟨g9, 0, none⟩) := by rw [hev]; rfl
         rw [if_pos (by rfl)]; unfold Oper.wp execOp; generalize A.eval = ev at e0 ⊢; go_simp; exact hK _ _ (hG.plain hdn (by decide) (by decide) (by decide) (by first | rfl | (simp; done) | (simp; omega) | (simp; assumption)))
       · intro dn us w6 A hev hy hG hcl hdn hdep K hK
         have d8 : dn 8 = true := allD_mem hdep (by decide)
         have e0 : A.eval (.tmp 115) = .pointer (some ⟨g9, 2, none⟩) := by rw [hev]; exact hG.val hdn (by decide) d8
         have hb6 := hG.below (hG.not hdn (by decide))
         have cc0 : w6.cell? ⟨g9, 2, none⟩ = some (.int .u64 (s.call (s.carried node)).val) := by rw [hb6.cell (World.block_lt_of_cell? _ _ v9)]; exact v9
         rw [if_pos (by rfl)]; unfold Oper.wp execOp; generalize A.eval = ev at e0 ⊢; go_simp; exact hK _ _ (hG.plain hdn (by decide) (by decide) (by decide) (by first | rfl | (simp; done) | (simp; omega) | (simp; assumption)))
       · intro dn us w6 A hev hy hG hcl hdn hdep K hK
         have d7 : dn 7 = true := allD_mem hdep (by decide)
         have d9 : dn 9 = true := allD_mem hdep (by decide)
         have e0 : A.eval (.tmp 114) = .int .u64 (s.key node) := by rw [hev]; exact hG.val hdn (by decide) d7
         have e1 : A.eval (.tmp 116) = .int .u64 (s.call (s.carried node)).val := by rw [hev]; exact hG.val hdn (by decide) d9
         rw [if_pos (by rfl)]; unfold Oper.wp execOp; generalize A.eval = ev at e0 e1 ⊢; go_simp; exact hK _ _ (hG.plain hdn (by decide) (by decide) (by decide) (by first | rfl | (simp; done) | (simp; omega) | (simp; assumption)))
       · intro dn us w6 A hev hy hG hcl hdn hdep K hK
         have hb6 := hG.below (hG.not hdn (by decide))
         have d10 : dn 10 = true := allD_mem hdep (by decide)
         have e0 : A.eval (.tmp 117) = .agg #[.int .u64 (s.key node), .int .u64 (s.call (s.carried node)).val] := by rw [hev]; exact hG.val hdn (by decide) d10
         rw [if_pos (by rfl)]; unfold Oper.wp execOp; generalize A.eval = ev at e0 ⊢; go_simp; exact hK _ _ (hG.sp1 hdn (by decide) (by decide) M1.out M2.out trivial ⟨_, rfl, hb6.size, At.new _ _ _⟩ ((Below.refl _ _).alloc (Nat.le_refl _) _))
       · intro dn us w6 A hev hy hG hcl hdn hdep K hK
         have hb6 := hG.below (hG.not hdn (by decide))
         have d6 : dn 6 = true := allD_mem hdep (by decide)
         have d11 : dn 11 = true := allD_mem hdep (by decide)
         obtain ⟨g, hg, hge, hA⟩ := (hG.pre (hG.not hdn (by decide)) 11 d11).2.1 rfl
         have e0 : A.eval (.tmp 113) = .slice ao l.length l.length := by rw [hev]; exact hG.val hdn (by decide) d6
         have e1 : A.eval (.tmp 118) = .slice (some ⟨g, 0, none⟩) 1 1 := by rw [hev]; exact hg
         obtain ⟨v', w', hrun, hP, hB⟩ := append_clip w6 49 (HPU9.out.below hb6) (fun z hz => ⟨HN.out z (by have := hb6.size; have := LW9.out; omega), by have := hb6.size; have := LGA.out; omega⟩) ⟨g, 0, none⟩ 1 ((s.key node), (s.call (s.carried node)).val) (hA.cell 0) (hA.cell 1) HLL.out
         rw [if_pos (by rfl)]
         unfold Oper.wp
         simp [execOp, resolve, invoke, builtin, e0, e1, hrun, Result.andThen]
         exact hK _ _ (hG.sp2 hdn (by decide) (by decide) M1.out M2.out trivial hP hB)
       · intro dn us w6 A hev hy hG hcl hdn hdep K hK
         have d0 : dn 0 = true := allD_mem hdep (by decide)
         have d4 : dn 4 = true := allD_mem hdep (by decide)
         have e0 : A.eval (.tmp 107) = .slice (some ⟨ga, 0, none⟩) 1 1 := by rw [hev]; exact hG.val hdn (by decide) d0
         have e1 : A.eval (.tmp 111) = .int .i64 0 := by rw [hev]; exact hG.val hdn (by decide) d4
         rw [if_pos (by rfl)]; unfold Oper.wp execOp; generalize A.eval = ev at e0 e1 ⊢; go_simp; exact hK _ _ (hG.plain hdn (by decide) (by decide) (by decide) (by first | rfl | (simp; done) | (simp; omega) | (simp; assumption)))
       · intro dn us w6 A hev hy hG hcl hdn hdep K hK
         have d12 : dn 12 = true := allD_mem hdep (by decide)
         have d13 : dn 13 = true := allD_mem hdep (by decide)
         have hall : ∀ j, j < 14 → dn j = true := by
           have d0 : dn 0 = true := allD_mem (hcl 13 d13) (by decide)
           have d4 : dn 4 = true := allD_mem (hcl 13 d13) (by decide)
           have d3 : dn 3 = true := allD_mem (hcl 4 d4) (by decide)
           have d2 : dn 2 = true := allD_mem (hcl 3 d3) (by decide)
           have d1 : dn 1 = true := allD_mem (hcl 2 d2) (by decide)
           have d6 : dn 6 = true := allD_mem (hcl 12 d12) (by decide)
           have d11 : dn 11 = true := allD_mem (hcl 12 d12) (by decide)
           have d5 : dn 5 = true := allD_mem (hcl 6 d6) (by decide)
           have d10 : dn 10 = true := allD_mem (hcl 11 d11) (by decide)
           have d7 : dn 7 = true := allD_mem (hcl 10 d10) (by decide)
           have d9 : dn 9 = true := allD_mem (hcl 10 d10) (by decide)
           have d8 : dn 8 = true := allD_mem (hcl 9 d9) (by decide)
           intro j hj
           match j, hj with
           | 0, _ => exact d0
           | 1, _ => exact d1
           | 2, _ => exact d2
           | 3, _ => exact d3
           | 4, _ => exact d4
           | 5, _ => exact d5
           | 6, _ => exact d6
           | 7, _ => exact d7
           | 8, _ => exact d8
           | 9, _ => exact d9
           | 10, _ => exact d10
           | 11, _ => exact d11
           | 12, _ => exact d12
           | 13, _ => exact d13
         have hP := (hG.pre hdn 12 d12).2.2 rfl
         obtain ⟨ao', cap', hq⟩ := hP.form
         have e0 : A.eval (.tmp 120) = .pointer (some ⟨ga, 0, none⟩) := by rw [hev]; exact hG.valS hdn d13
         have e1 : A.eval (.tmp 119) = us 12 := by rw [hev]; rfl
         rw [hq] at e1 hP
         refine step_list (wpl_st rfl 49 (.tmp 120) (.tmp 119) rfl #[.slice ao' (l ++ [((s.key node), (s.call (s.carried node)).val)]).length cap'] e0 _ e1 (AA9.below' (hG.below hdn)) (by kernel_rfl) rfl rfl rfl fun w7 A7 O7 => ⟨rfl, ?_⟩)
         exact hK _ _ (LG.stored hall ⟨_, A7, hP.only O7 (fun z hz e => hz.2 e), (Only.ofBelow _ (hG.below hdn)).trans O7⟩)
       intro dn us wX hG hall
       obtain ⟨u, AX, hP, OX⟩ := hG.st (hall 14 (by decide))
       simp only [fillA, fillT, Nat.reduceAdd, List.setIfInBounds_toArray, List.set_cons_zero, List.set_cons_succ]
       clear hG hall M1 M2
       have A10 := (show At w9.drew b 53 _ from A9).only (show Only (fun j => j = ga) w9.drew wX from ⟨OX.os, OX.tape, OX.output, OX.size, OX.block⟩) (by show ¬ b = ga; omega)
       go_wp2_with (refine wpl_st rfl 47 _ _ rfl (Scn.cells ⟨c, phase, 0, node, next, [l], dn0, er, rd, prs⟩ (.slice (some ⟨ga, 0, none⟩) 1 1) pv) rfl _ rfl A10 (by kernel_rfl) rfl rfl rfl ?_; intro wY AY OY)
       go_end0
       have HD := ((HH3.out.below D39).but HOG.out OX).but HB.out OY
       have AXY := AX.only OY (by show ¬ ga = b; omega)
       have hPY := hP.go (w' := wY) (M := N) (fun z hz _ => hz.1) (fun z hz hl => OY.block z hl (fun e => HNB.out (by have e' : z = b := e; rw [← e']; exact hz.1)))
       have OO : Only (OwnX k b) w wY := ((O3.thenBelow D39).step (.inr zw) OX).step (.inl (.inr rfl)) OY
       refine ⟨rfl, HD, ?_⟩
       rw [HJ.out]
       exact ⟨_, AY, .inr ⟨ga, 0, 1, rfl, by simp, Nat.le_refl 1, HN.out ga zw, fun i l' hl' => by
         match i, hl' with
         | 0, hl' => cases hl'; exact ⟨u, AXY.cell 0, hPY⟩⟩, OO⟩
end Go.Proofs.YtccmjljlfgbicaaGreat

