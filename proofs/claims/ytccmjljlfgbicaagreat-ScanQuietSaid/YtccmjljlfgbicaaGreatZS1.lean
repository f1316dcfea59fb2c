/- Regions that draw their order, of which one or two calls turn the world; what is told of the values says nothing of memory. -/
import Derived.Test.YtccmjljlfgbicaaGreatSq
import Derived.Test.YtccmjljlfgbicaaGreatRegL
import Derived.Test.YtccmjljlfgbicaaGreatZScnJ
import Derived.Test.YtccmjljlfgbicaaGreatWalkE
import Derived.Test.YtccmjljlfgbicaaGreatZL1
namespace Go.Proofs.YtccmjljlfgbicaaGreat
open Go.ChangeShapes Go.WideShapes Go.ChangeAt Go.RowKit

structure TG (m1 m2 : Nat) (L : List Nat) (F0 : Nat → Value → Prop) (W : World) (R S : World → Prop) (dn : Nat → Bool) (us : Nat → Value) (w : World) : Prop where
  pre : ∀ j, dn j = true → F0 j (us j)
  all : dn m1 = true → ∀ j ∈ L, dn j = true
  ord : dn m2 = true → dn m1 = true
  ph0 : dn m1 = false → Below W.heap.size W w
  ph1 : dn m1 = true → dn m2 = false → R w
  ph2 : dn m2 = true → S w
section
variable {m1 m2 : Nat} {L : List Nat} {F0 : Nat → Value → Prop} {W w w' : World} {R S : World → Prop} {dn : Nat → Bool} {us : Nat → Value}
theorem TG.start (us : Nat → Value) : TG m1 m2 L F0 W R S (fun _ => false) us W.drew :=
  ⟨fun _ e => (by cases e), fun e => (by cases e), fun e => (by cases e), fun _ => (Below.refl _ W).drew, fun e => (by cases e), fun e => (by cases e)⟩
theorem preUpd {i : Nat} {v : Value} (h : ∀ j, dn j = true → F0 j (us j)) (hv : F0 i v) : ∀ j, updB dn i j = true → F0 j (updN us i v j) := by
  intro j e
  by_cases q : j = i
  · subst q; rw [updN_eq]; exact hv
  · rw [updB_ne q] at e; rw [updN_ne q]; exact h j e
theorem allUpd {i : Nat} {L : List Nat} (h : ∀ j ∈ L, dn j = true) : ∀ j ∈ L, updB dn i j = true := by
  intro j hj
  by_cases q : j = i
  · subst q; exact updB_eq
  · rw [updB_ne q]; exact h j hj
theorem TG.not1 (h : TG m1 m2 L F0 W R S dn us w) {i : Nat} (hd : dn i = false) (hi : i ∈ L) : dn m1 = false := by
  cases q : dn m1 with
  | false => rfl
  | true => have := h.all q i hi; rw [hd] at this; cases this
theorem TG.pure (h : TG m1 m2 L F0 W R S dn us w) {i : Nat} (h1 : i ≠ m1) (h2 : i ≠ m2) {v : Value} (hv : F0 i v) : TG m1 m2 L F0 W R S (updB dn i) (updN us i v) w :=
  ⟨preUpd h.pre hv, fun e => (by rw [updB_ne (Ne.symm h1)] at e; exact allUpd (h.all e)), fun e => (by rw [updB_ne (Ne.symm h2)] at e; rw [updB_ne (Ne.symm h1)]; exact h.ord e), fun e => (by rw [updB_ne (Ne.symm h1)] at e; exact h.ph0 e), fun e1 e2 => (by rw [updB_ne (Ne.symm h1)] at e1; rw [updB_ne (Ne.symm h2)] at e2; exact h.ph1 e1 e2), fun e => (by rw [updB_ne (Ne.symm h2)] at e; exact h.ph2 e)⟩
theorem TG.quiet (h : TG m1 m2 L F0 W R S dn us w) {i : Nat} (hd : dn m1 = false) (h1 : i ≠ m1) (h2 : i ≠ m2) {v : Value} (hv : F0 i v) (hb : Below w.heap.size w w') : TG m1 m2 L F0 W R S (updB dn i) (updN us i v) w' := by
  have n2 : dn m2 = false := by
    cases q : dn m2 with
    | false => rfl
    | true => have := h.ord q; rw [hd] at this; cases this
  refine ⟨preUpd h.pre hv, fun e => (by rw [updB_ne (Ne.symm h1), hd] at e; cases e), fun e => (by rw [updB_ne (Ne.symm h2), n2] at e; cases e), fun _ => (h.ph0 hd).trans (hb.mono (h.ph0 hd).size), fun e => (by rw [updB_ne (Ne.symm h1), hd] at e; cases e), fun e => (by rw [updB_ne (Ne.symm h2), n2] at e; cases e)⟩
theorem TG.turn1 (h : TG m1 m2 L F0 W R S dn us w) (hd : dn m1 = false) (h12 : m1 ≠ m2) (ha : ∀ j ∈ L, dn j = true) {v : Value} (hv : F0 m1 v) (hR : R w') : TG m1 m2 L F0 W R S (updB dn m1) (updN us m1 v) w' := by
  have n2 : dn m2 = false := by
    cases q : dn m2 with
    | false => rfl
    | true => have := h.ord q; rw [hd] at this; cases this
  refine ⟨preUpd h.pre hv, fun _ => allUpd ha, fun _ => updB_eq, fun e => (by rw [updB_eq] at e; cases e), fun _ _ => hR, fun e => (by rw [updB_ne (Ne.symm h12), n2] at e; cases e)⟩
theorem TG.turn2 (h : TG m1 m2 L F0 W R S dn us w) (hd : dn m1 = true) (h12 : m1 ≠ m2) {v : Value} (hv : F0 m2 v) (hS : S w') : TG m1 m2 L F0 W R S (updB dn m2) (updN us m2 v) w' :=
  ⟨preUpd h.pre hv, fun _ => allUpd (h.all hd), fun _ => by rw [updB_ne h12]; exact hd, fun e => (by rw [updB_ne h12, hd] at e; cases e), fun _ e => (by rw [updB_eq] at e; cases e), fun _ => hS⟩
end
end Go.Proofs.YtccmjljlfgbicaaGreat

/- Contracts of scan.Step and scan.New. Printed by scnb.py. -/
namespace Go.Proofs.YtccmjljlfgbicaaGreat
open Go.ChangeShapes Go.WideShapes Go.ChangeAt Go.RowKit

structure AEnd (b : Nat) (N : Nat → Prop) (lv : Value) (y : Scn) (w w' : World) : Prop where
  out : ∃ pv, At w' b 53 (y.cells lv pv) ∧ PairsIn w' N pv y.pairs ∧ Only (fun j => j = b) w w'
theorem sarrive_any {k : Blks} {s : St} (c : GCall) (phase node next : Int) (dn0 : Bool) (er : Int) (rd : Bool) (prs l : List (Int × Int)) {N : Nat → Prop} {lv pv : Value} (n : Int) (b : Nat) (w : World) (h : Holds k s w) (hb : Out k b) (hx : At w b 53 (Scn.cells ⟨c, phase, 0, node, next, [l], dn0, er, rd, prs⟩ lv pv)) (hI : ScnIn w N ⟨c, phase, 0, node, next, [l], dn0, er, rd, prs⟩ lv pv) (hl : l.length ≤ 100000) (hc : s.c.buckets = 1) (hN : ∀ b', w.heap.size ≤ b' → N b') (hNb : ¬ N b) :
    Calls Tryz.prog 69 #[.pointer (some ⟨b, 0, none⟩), .pointer (some ⟨k.bw, 0, none⟩), .int .i64 n] w fun e w' => e = .returned (.tuple #[]) ∧ AEnd b N lv (s.scnArrive ⟨c, phase, 0, node, next, [l], dn0, er, rd, prs⟩ n) w w' := by
  by_cases hk : n ≠ 0 ∧ s.key n ≤ c.val
  · refine (sarrive_on ⟨c, phase, 0, node, next, [l], dn0, er, rd, prs⟩ n b w h hb hx hk.1 hk.2).mono ?_
    rintro e w' ⟨rfl, hA, hO⟩
    refine ⟨rfl, ?_⟩
    unfold St.scnArrive
    rw [if_pos hk]
    exact ⟨pv, hA, hI.pairs.only hO (fun z hz e => hNb (by have e' : z = b := e; rw [← e']; exact hz)), hO⟩
  · refine (sarrive_end c phase node next dn0 er rd prs l n b w h hb hx hI.lists hl hc hN hNb hk).mono ?_
    rintro e w' ⟨rfl, pv', hA, hP, hO⟩
    refine ⟨rfl, ?_⟩
    unfold St.scnArrive
    rw [if_neg hk, if_pos (by rw [hc]; rfl)]
    exact ⟨pv', hA, hP, hO⟩
abbrev zeroS : Array Value := Scn.cells ⟨GCall.none_, 0, 0, 0, 0, [], false, 0, false, []⟩ (.slice none 0 0) (.slice none 0 0)
structure SOut (k : Blks) (N : Nat → Prop) (r : St × Scn) (e : Ending) (w w' : World) : Prop where
  out : ∃ lv pv, e = .returned (.agg (r.2.cells lv pv)) ∧ Holds k r.1 w' ∧ ScnIn w' N r.2 lv pv ∧ Only (Own k) w w'
structure Scn.ok (x : Scn) : Prop where
  act : x.done = false → 0 ≤ x.phase → x.phase ≤ 2 → x.bucket = 0 ∧ ∃ l, x.lists = [l] ∧ l.length ≤ 100000
  next : 0 ≤ x.next ∧ x.next ≤ 18446744073709551615

set_option maxRecDepth 100000 in
set_option maxHeartbeats 8000000 in
theorem sstep_done {k : Blks} {s : St} {N : Nat → Prop} (x : Scn) {lv pv : Value} (w : World) (h : Holds k s w) (hI : ScnIn w N x lv pv) (hd : x.done = true) (hv : ∃ ao n cap, lv = .slice ao n cap) (hw : ∃ ao n cap, pv = .slice ao n cap) :
    Calls Tryz.prog 21 #[.pointer (some ⟨k.bw, 0, none⟩), x.val lv pv] w fun e w' => SOut k N (s, x) e w w' := by
  obtain ⟨c, phase, bucket, node, next, lists, done, er, rd, prs⟩ := x
  simp only at hd
  subst hd
  obtain ⟨a1, n1, c1, rfl⟩ := hv
  obtain ⟨a2, n2, c2, rfl⟩ := hw
  have HH := Lib.hid h
  have HI := Lib.hid hI
  clear h hI
  have A1 := (At.new w 53 (Scn.cells ⟨c, phase, bucket, node, next, lists, true, er, rd, prs⟩ (.slice a1 n1 c1) (.slice a2 n2 c2))).alloc (.cells zeroS 53)
  have A2 := At.new1 w (.cells (Scn.cells ⟨c, phase, bucket, node, next, lists, true, er, rd, prs⟩ (.slice a1 n1 c1) (.slice a2 n2 c2)) 53) 53 zeroS
  have D0 := below_twice w (.cells (Scn.cells ⟨c, phase, bucket, node, next, lists, true, er, rd, prs⟩ (.slice a1 n1 c1) (.slice a2 n2 c2)) 53) (.cells zeroS 53)
  go_enter Tryz.func21, Tryz.ntmps21
  go_upto_region 1 with fail
  generalize (w.alloc (.cells (Scn.cells ⟨c, phase, bucket, node, next, lists, true, er, rd, prs⟩ (.slice a1 n1 c1) (.slice a2 n2 c2)) 53)).alloc (.cells zeroS 53) = w1 at *
  have x9 : w1.cell? ⟨w.heap.size, 9, none⟩ = some (.bool true) := A1.cell 9
  go_wp2_with (first
    | (refine wpl_st rfl 53 _ _ rfl (Scn.cells ⟨c, phase, bucket, node, next, lists, true, er, rd, prs⟩ (.slice a1 n1 c1) (.slice a2 n2 c2)) rfl _ rfl A2 (by kernel_rfl) rfl rfl rfl ?_; intro w2 A3 O3)
    | (refine wpl_ld rfl 53 _ rfl (Scn.cells ⟨c, phase, bucket, node, next, lists, true, er, rd, prs⟩ (.slice a1 n1 c1) (.slice a2 n2 c2)) rfl _ A1 Tryz.underlying53 rfl (by kernel_rfl) rfl ?_))
  have D2 : Below w.heap.size w w2 := D0.trans (O3.below D0.size fun j hj e => by have e' : j = w.heap.size + 1 := e; omega)
  refine bodyPost_ret (res_cell rfl _ _ _ _ _ rfl A3 Tryz.underlying53 rfl (by kernel_rfl)) rfl ?_
  exact ⟨_, _, rfl, HH.out.below D2, HI.out.below D2, .ofBelow _ D2⟩

theorem judgeL_len (s : St) (c : GCall) (node v : Int) (l : List (Int × Int)) : (s.judgeL c node v l).length ≤ l.length + 1 := by
  unfold St.judgeL
  split
  · simp
  · omega
theorem scnArrive_lists (s : St) (x : Scn) (n : Int) : (s.scnArrive x n).lists = x.lists := by
  unfold St.scnArrive
  split
  · rfl
  · split <;> rfl
theorem only_drop2 {k : Blks} {b g : Nat} {w w' w'' : World} (h : Only (OwnX k b) w w') (ho : Only (fun j => j = g) w' w'') : Only (fun j => Own k j ∨ j = b ∨ j = g) w w'' :=
  (h.mono fun _ _ e => e.elim .inl fun e => .inr (.inl e)).trans (ho.mono fun _ _ e => .inr (.inr e))
set_option maxRecDepth 100000 in
set_option maxHeartbeats 8000000 in
theorem sstep_0 {k : Blks} {s : St} {N : Nat → Prop} (c : GCall) (node next er : Int) (rd : Bool) (prs l : List (Int × Int)) {lv pv : Value} (w : World) (h : Holds k s w) (hI : ScnIn w N ⟨c, 0, 0, node, next, [l], false, er, rd, prs⟩ lv pv) (hl : l.length ≤ 99999) (hc : s.c.buckets = 1) (hN : ∀ z, w.heap.size ≤ z → N z) (hNo : ∀ z, N z → ¬ Own k z) (hn : 0 ≤ next ∧ next ≤ 18446744073709551615) :
    Calls Tryz.prog 21 #[.pointer (some ⟨k.bw, 0, none⟩), Scn.val ⟨c, 0, 0, node, next, [l], false, er, rd, prs⟩ lv pv] w fun e w' => SOut k N ((s.load (s.nextAt (s.headAt 0))), s.scnArrive ⟨c, 0, 0, node, next, [l], false, er, rd, prs⟩ ((s.peek (s.nextAt (s.headAt 0))) / 2)) e w w' := by
  obtain ⟨lb, lo, lc, rfl⟩ := hI.lists.form1
  obtain ⟨pa, pc, rfl⟩ := hI.pairs.form
  have HH := Lib.hid h
  have HI := Lib.hid hI
  have HB1 := Lib.hid hc
  have HM := Lib.hid h.ok.may
  have HLL := Lib.hid (show l.length ≤ 100000 by omega)
  have HL9 := Lib.hid hl
  have HN := Lib.hid hN
  have HNQ := Lib.hid hNo
  have HNX := Lib.hid hn
  clear h hI hc hl hN hNo hn
  have A1 := (At.new w 53 (Scn.cells ⟨c, 0, 0, node, next, [l], false, er, rd, prs⟩ (.slice (some ⟨lb, lo, none⟩) 1 lc) (.slice pa prs.length pc))).alloc (.cells zeroS 53)
  have A2 := At.new1 w (.cells (Scn.cells ⟨c, 0, 0, node, next, [l], false, er, rd, prs⟩ (.slice (some ⟨lb, lo, none⟩) 1 lc) (.slice pa prs.length pc)) 53) 53 zeroS
  have D0 := below_twice w (.cells (Scn.cells ⟨c, 0, 0, node, next, [l], false, er, rd, prs⟩ (.slice (some ⟨lb, lo, none⟩) 1 lc) (.slice pa prs.length pc)) 53) (.cells zeroS 53)
  go_enter Tryz.func21, Tryz.ntmps21
  go_upto_region 1 with fail
  generalize (w.alloc (.cells (Scn.cells ⟨c, 0, 0, node, next, [l], false, er, rd, prs⟩ (.slice (some ⟨lb, lo, none⟩) 1 lc) (.slice pa prs.length pc)) 53)).alloc (.cells zeroS 53) = w1 at *
  have z1 := A2.lt
  have H1 := Lib.hid (HH.out.below D0)
  have OO := Lib.hid (HH.out.out (Nat.le_refl w.heap.size))
  have OP := Lib.hid (HH.out.out (Nat.le_succ w.heap.size))
  have HI1 := Lib.hid (HI.out.go (w' := w1) (M := (fun z => N z ∧ z ≠ w.heap.size ∧ z ≠ w.heap.size + 1)) (fun z hz hl => ⟨hz, by omega, by omega⟩) (fun z _ hl => D0.block z hl))
  have HN1 := Lib.hid (show ∀ z, w1.heap.size ≤ z → (fun z => N z ∧ z ≠ w.heap.size ∧ z ≠ w.heap.size + 1) z from fun z hz => ⟨HN.out z (by omega), by omega, by omega⟩)
  have HNO := Lib.hid (show ∀ z, (fun z => N z ∧ z ≠ w.heap.size ∧ z ≠ w.heap.size + 1) z → ¬ Own k z from fun z hz => HNQ.out z hz.1)
  have x9 : w1.cell? ⟨w.heap.size, 9, none⟩ = some (.bool false) := A1.cell 9
  have x4 : w1.cell? ⟨w.heap.size, 4, none⟩ = some (.int .i64 0) := A1.cell 4
  have x5 : w1.cell? ⟨w.heap.size, 5, none⟩ = some (.int .i64 0) := A1.cell 5
  have x6 : w1.cell? ⟨w.heap.size, 6, none⟩ = some (.int .i64 node) := A1.cell 6
  have x7 : w1.cell? ⟨w.heap.size, 7, none⟩ = some (.int .u64 next) := A1.cell 7
  have HP := Lib.hid (peek_range HH.out.ok (s.nextAt (s.headAt 0)))
  obtain ⟨⟨gg0, gg1, gg2, gg3, gg4⟩, -, -, lw1⟩ := H1.out.wfacts
  go_upto_region 6 with fail
  refine wp_region_C (l := [_, _, _, _, _, _, _, _, _, _, _, _]) (TG 9 11 [5, 7, 8] (fun j v => match j with | 0 => v = .pointer (some ⟨k.bw, 0, none⟩) | 1 => v = .pointer (some ⟨k.bw, 0, none⟩) | 2 => v = .pointer (some ⟨k.bw, 0, none⟩) | 3 => v = .pointer (some ⟨k.bw, 0, none⟩) | 4 => v = .pointer (some ⟨k.bw, 0, none⟩) | 5 => v = s.c.val | 6 => v = .pointer (some ⟨w.heap.size, 5, none⟩) | 7 => v = .int .i64 0 | 8 => v = .int .i64 (s.headAt 0) | 9 => v = .int .u64 (s.peek (s.nextAt (s.headAt 0))) | 10 => v = .int .i64 ((s.peek (s.nextAt (s.headAt 0))) / 2) | _ => True) w1 (fun w' => Holds k (s.load (s.nextAt (s.headAt 0))) w' ∧ Only (Own k) w1 w') (fun w' => Holds k (s.load (s.nextAt (s.headAt 0))) w' ∧ ∃ wm, Only (Own k) w1 wm ∧ AEnd w.heap.size (fun z => N z ∧ z ≠ w.heap.size ∧ z ≠ w.heap.size + 1) (.slice (some ⟨lb, lo, none⟩) 1 lc) (s.scnArrive ⟨c, 0, 0, node, next, [l], false, er, rd, prs⟩ ((s.peek (s.nextAt (s.headAt 0))) / 2)) wm w')) (by kernel_rfl) (by kernel_rfl) (fun us => TG.start us) ⟨?_, ?_, ?_, ?_, ?_, ?_, ?_, ?_, ?_, ?_, ?_, ?_, trivial⟩ ?_
  · intro dn us w6 A hev hy hG hcl hdn hdep K hK
    have e0 : A.eval (.tmp 0) = .pointer (some ⟨k.bw, 0, none⟩) := by rw [hev]; rfl
    rw [if_pos (by rfl)]; unfold Oper.wp execOp; generalize A.eval = ev at e0 ⊢; go_simp; exact hK _ _ (hG.pure (by decide) (by decide) (by first | rfl | (simp; done) | (simp; omega) | (simp; assumption)))
  · intro dn us w6 A hev hy hG hcl hdn hdep K hK
    have e0 : A.eval (.tmp 0) = .pointer (some ⟨k.bw, 0, none⟩) := by rw [hev]; rfl
    rw [if_pos (by rfl)]; unfold Oper.wp execOp; generalize A.eval = ev at e0 ⊢; go_simp; exact hK _ _ (hG.pure (by decide) (by decide) (by first | rfl | (simp; done) | (simp; omega) | (simp; assumption)))
  · intro dn us w6 A hev hy hG hcl hdn hdep K hK
    have e0 : A.eval (.tmp 0) = .pointer (some ⟨k.bw, 0, none⟩) := by rw [hev]; rfl
    rw [if_pos (by rfl)]; unfold Oper.wp execOp; generalize A.eval = ev at e0 ⊢; go_simp; exact hK _ _ (hG.pure (by decide) (by decide) (by first | rfl | (simp; done) | (simp; omega) | (simp; assumption)))
  · intro dn us w6 A hev hy hG hcl hdn hdep K hK
    have e0 : A.eval (.tmp 19) = .pointer (some ⟨k.bw, 0, none⟩) := by rw [hev]; exact hG.pre 2 (dm 2 hdep rfl)
    rw [if_pos (by rfl)]; unfold Oper.wp execOp; generalize A.eval = ev at e0 ⊢; go_simp; exact hK _ _ (hG.pure (by decide) (by decide) (by first | rfl | (simp; done) | (simp; omega) | (simp; assumption)))
  · intro dn us w6 A hev hy hG hcl hdn hdep K hK
    have e0 : A.eval (.tmp 20) = .pointer (some ⟨k.bw, 0, none⟩) := by rw [hev]; exact hG.pre 3 (dm 3 hdep rfl)
    rw [if_pos (by rfl)]; unfold Oper.wp execOp; generalize A.eval = ev at e0 ⊢; go_simp; exact hK _ _ (hG.pure (by decide) (by decide) (by first | rfl | (simp; done) | (simp; omega) | (simp; assumption)))
  · intro dn us w6 A hev hy hG hcl hdn hdep K hK
    have e0 : A.eval (.tmp 21) = .pointer (some ⟨k.bw, 0, none⟩) := by rw [hev]; exact hG.pre 4 (dm 4 hdep rfl)
    have hb6 := hG.ph0 (hG.not1 hdn (by decide))
    have cc0 : w6.cell? ⟨k.bw, 0, none⟩ = some (.int .i64 s.c.threads) := by rw [hb6.cell lw1]; exact gg0
    have cc1 : w6.cell? ⟨k.bw, 1, none⟩ = some (.int .i64 s.c.buckets) := by rw [hb6.cell lw1]; exact gg1
    have cc2 : w6.cell? ⟨k.bw, 2, none⟩ = some (.int .i64 s.c.inserts) := by rw [hb6.cell lw1]; exact gg2
    have cc3 : w6.cell? ⟨k.bw, 3, none⟩ = some (.int .i64 s.c.fuel) := by rw [hb6.cell lw1]; exact gg3
    have cc4 : w6.cell? ⟨k.bw, 4, none⟩ = some (.int .i64 s.c.calls) := by rw [hb6.cell lw1]; exact gg4
    rw [if_pos (by rfl)]; unfold Oper.wp execOp; generalize A.eval = ev at e0 ⊢; go_simp; exact hK _ _ (hG.pure (by decide) (by decide) (by first | rfl | (simp; done) | (simp; omega) | (simp; assumption)))
  · intro dn us w6 A hev hy hG hcl hdn hdep K hK
    have e0 : A.eval (.tmp 3) = .pointer (some ⟨w.heap.size, 0, none⟩) := by rw [hev]; rfl
    rw [if_pos (by rfl)]; unfold Oper.wp execOp; generalize A.eval = ev at e0 ⊢; go_simp; exact hK _ _ (hG.pure (by decide) (by decide) (by first | rfl | (simp; done) | (simp; omega) | (simp; assumption)))
  · intro dn us w6 A hev hy hG hcl hdn hdep K hK
    have e0 : A.eval (.tmp 23) = .pointer (some ⟨w.heap.size, 5, none⟩) := by rw [hev]; exact hG.pre 6 (dm 6 hdep rfl)
    have hb6 := hG.ph0 (hG.not1 hdn (by decide))
    have cc0 : w6.cell? ⟨w.heap.size, 5, none⟩ = some (.int .i64 0) := by rw [hb6.cell A1.lt]; exact A1.cell 5
    rw [if_pos (by rfl)]; unfold Oper.wp execOp; generalize A.eval = ev at e0 ⊢; go_simp; exact hK _ _ (hG.pure (by decide) (by decide) (by first | rfl | (simp; done) | (simp; omega) | (simp; assumption)))
  · intro dn us w6 A hev hy hG hcl hdn hdep K hK
    have e0 : A.eval (.tmp 22) = s.c.val := by rw [hev]; exact hG.pre 5 (dm 5 hdep rfl)
    have e1 : A.eval (.tmp 24) = .int .i64 0 := by rw [hev]; exact hG.pre 7 (dm 7 hdep rfl)
    have ef : A.eval (.func 71) = .func (.func 71) #[] #[] := by rw [hev]; rfl
    rw [if_pos (by rfl)]; unfold Oper.wp execOp; generalize A.eval = ev at e0 e1 ef ⊢; go_simp; refine (head_any s.c 0 w6 HM.out).mono ?_
    rintro e wq ⟨rfl, hb⟩
    exact hK _ _ (hG.quiet (hG.not1 hdn (by decide)) (by decide) (by decide) rfl hb)
  · intro dn us w6 A hev hy hG hcl hdn hdep K hK
    have d1 : dn 1 = true := allD_mem hdep (by decide)
    have d8 : dn 8 = true := allD_mem hdep (by decide)
    have d5 : dn 5 = true := allD_mem (hcl 8 d8) (by decide)
    have d7 : dn 7 = true := allD_mem (hcl 8 d8) (by decide)
    have e0 : A.eval (.tmp 18) = .pointer (some ⟨k.bw, 0, none⟩) := by rw [hev]; exact hG.pre 1 d1
    have e1 : A.eval (.tmp 25) = .int .i64 (s.headAt 0) := by rw [hev]; exact hG.pre 8 d8
    have ef : A.eval (.func 39) = .func (.func 39) #[] #[] := by rw [hev]; rfl
    have hb6 := hG.ph0 hdn
    rw [if_pos (by rfl)]; unfold Oper.wp execOp; generalize A.eval = ev at e0 e1 ef ⊢; go_simp; refine (wnext_any (s.headAt 0) w6 (H1.out.below hb6)).mono ?_
    rintro e wq ⟨rfl, hH, hO⟩
    exact hK _ _ (hG.turn1 hdn (by decide) (by intro j hj; simp at hj; rcases hj with rfl | rfl | rfl <;> assumption) rfl ⟨hH, (Only.ofBelow _ hb6).trans hO⟩)
  · intro dn us w6 A hev hy hG hcl hdn hdep K hK
    have e0 : A.eval (.tmp 26) = .int .u64 (s.peek (s.nextAt (s.headAt 0))) := by rw [hev]; exact hG.pre 9 (dm 9 hdep rfl)
    have ef : A.eval (.func 70) = .func (.func 70) #[] #[] := by rw [hev]; rfl
    rw [if_pos (by rfl)]; unfold Oper.wp execOp; generalize A.eval = ev at e0 ef ⊢; go_simp; refine (index_any (s.peek (s.nextAt (s.headAt 0))) w6 HP.out.1 HP.out.2).mono ?_
    rintro e wq ⟨rfl, rfl⟩
    exact hK _ _ (hG.pure (by decide) (by decide) rfl)
  · intro dn us w6 A hev hy hG hcl hdn hdep K hK
    have d10 : dn 10 = true := allD_mem hdep (by decide)
    have d9 : dn 9 = true := allD_mem (hcl 10 d10) (by decide)
    have e0 : A.eval (.tmp 3) = .pointer (some ⟨w.heap.size, 0, none⟩) := by rw [hev]; rfl
    have e1 : A.eval (.tmp 17) = .pointer (some ⟨k.bw, 0, none⟩) := by rw [hev]; exact hG.pre 0 (dm 0 hdep rfl)
    have e2 : A.eval (.tmp 27) = .int .i64 ((s.peek (s.nextAt (s.headAt 0))) / 2) := by rw [hev]; exact hG.pre 10 d10
    have ef : A.eval (.func 69) = .func (.func 69) #[] #[] := by rw [hev]; rfl
    obtain ⟨hH, hO⟩ := hG.ph1 d9 hdn
    rw [if_pos (by rfl)]; unfold Oper.wp execOp; generalize A.eval = ev at e0 e1 e2 ef ⊢; go_simp; refine (sarrive_any (s := (s.load (s.nextAt (s.headAt 0)))) c 0 node next false er rd prs l ((s.peek (s.nextAt (s.headAt 0))) / 2) w.heap.size w6 hH OO.out (A1.only hO OO.out.1) (HI1.out.only hO HNO.out) HLL.out HB1.out (fun z hz => HN1.out z (Nat.le_trans hO.size hz)) (fun q => q.2.1 rfl)).mono ?_
    rintro e wq ⟨rfl, hE⟩
    exact hK _ _ (hG.turn2 d9 (by decide) trivial ⟨hH.but OO.out hE.out.choose_spec.2.2, w6, hO, hE⟩)
  intro dn us w7 hG hall
  obtain ⟨H7, wm, hOm, hE⟩ := hG.ph2 (hall 11 (by decide))
  simp only [fillA, fillT, Nat.reduceAdd, List.setIfInBounds_toArray, List.set_cons_zero, List.set_cons_succ]
  clear hG hall
  obtain ⟨pvq, A7, P7, O7⟩ := hE.out
  obtain ⟨paq, pcq, rfl⟩ := P7.form
  have zO := hOm.size
  have L7 := (HI1.out.lists.only (show Only (Own k) w1 wm from hOm) HNO.out).only O7 (fun z hz e => hz.2.1 e)
  have A2q := (A2.only hOm OP.out.1).only O7 (by show ¬ _ = _; omega)
  have OK7 : Only (OwnX k w.heap.size) w1 w7 := (onlyX hOm).trans (O7.mono fun _ _ e => .inr e)
  have hyl := scnArrive_lists s ⟨c, 0, 0, node, next, [l], false, er, rd, prs⟩ ((s.peek (s.nextAt (s.headAt 0))) / 2)
  obtain ⟨y, hy⟩ : ∃ y, y = s.scnArrive ⟨c, 0, 0, node, next, [l], false, er, rd, prs⟩ ((s.peek (s.nextAt (s.headAt 0))) / 2) := ⟨_, rfl⟩
  rw [← hy] at A7 P7 hyl
  have HY := Lib.hid hy
  clear hy
  have L7 : ListsIn w7 (fun z => N z ∧ z ≠ w.heap.size ∧ z ≠ w.heap.size + 1) (.slice (some ⟨lb, lo, none⟩) 1 lc) y.lists := by rw [hyl]; exact L7
  generalize hpn : y.pairs.length = pnq at *
  clear hE hyl hpn x4 x5 x6 x7 x9 gg0 gg1 gg2 gg3 gg4
  have HF := Lib.hid (And.intro H7 (And.intro L7 (And.intro P7 OK7)))
  clear H7 L7 P7 OK7
  go_wp2_with (first
    | (refine wpl_st rfl 53 _ _ rfl (Scn.cells y (.slice (some ⟨lb, lo, none⟩) 1 lc) (.slice paq pnq pcq)) rfl _ rfl A2q (by kernel_rfl) rfl rfl rfl ?_; intro w8 A8 O8)
    | (refine wpl_ld rfl 53 _ rfl (Scn.cells y (.slice (some ⟨lb, lo, none⟩) 1 lc) (.slice paq pnq pcq)) rfl _ A7 Tryz.underlying53 rfl (by kernel_rfl) rfl ?_))
  obtain ⟨H7, L7, P7, OK7⟩ := HF.out
  refine bodyPost_ret (res_cell rfl _ _ _ _ _ rfl A8 Tryz.underlying53 rfl (by kernel_rfl)) rfl ?_
  have hy := HY.out
  subst hy
  have hg : ∀ z, (fun z => N z ∧ z ≠ w.heap.size ∧ z ≠ w.heap.size + 1) z → z < w7.heap.size → N z := fun z hz _ => hz.1
  have hk : ∀ z, (fun z => N z ∧ z ≠ w.heap.size ∧ z ≠ w.heap.size + 1) z → z < w7.heap.size → w8.heap[z]? = w7.heap[z]? := fun z hz hl => O8.block z hl (fun e => hz.2.2 e)
  refine ⟨_, _, rfl, H7.but OP.out O8, ⟨L7.go hg hk, P7.go hg hk⟩, ?_⟩
  exact ((Only.ofBelow _ D0).trans (only_drop2 OK7 O8)).mono fun z hz e => by rcases e with e | e | e; exact e; all_goals omega
set_option maxRecDepth 100000 in
set_option maxHeartbeats 8000000 in
theorem sstep_1 {k : Blks} {s : St} {N : Nat → Prop} (c : GCall) (node next er : Int) (rd : Bool) (prs l : List (Int × Int)) {lv pv : Value} (w : World) (h : Holds k s w) (hI : ScnIn w N ⟨c, 1, 0, node, next, [l], false, er, rd, prs⟩ lv pv) (hl : l.length ≤ 99999) (hc : s.c.buckets = 1) (hN : ∀ z, w.heap.size ≤ z → N z) (hNo : ∀ z, N z → ¬ Own k z) (hn : 0 ≤ next ∧ next ≤ 18446744073709551615) :
    Calls Tryz.prog 21 #[.pointer (some ⟨k.bw, 0, none⟩), Scn.val ⟨c, 1, 0, node, next, [l], false, er, rd, prs⟩ lv pv] w fun e w' => SOut k N ((s.load (s.nextAt node)), ⟨c, 2, 0, node, (s.peek (s.nextAt node)), [l], false, er, rd, prs⟩) e w w' := by
  obtain ⟨lb, lo, lc, rfl⟩ := hI.lists.form1
  obtain ⟨pa, pc, rfl⟩ := hI.pairs.form
  have HH := Lib.hid h
  have HI := Lib.hid hI
  have HB1 := Lib.hid hc
  have HM := Lib.hid h.ok.may
  have HLL := Lib.hid (show l.length ≤ 100000 by omega)
  have HL9 := Lib.hid hl
  have HN := Lib.hid hN
  have HNQ := Lib.hid hNo
  have HNX := Lib.hid hn
  clear h hI hc hl hN hNo hn
  have A1 := (At.new w 53 (Scn.cells ⟨c, 1, 0, node, next, [l], false, er, rd, prs⟩ (.slice (some ⟨lb, lo, none⟩) 1 lc) (.slice pa prs.length pc))).alloc (.cells zeroS 53)
  have A2 := At.new1 w (.cells (Scn.cells ⟨c, 1, 0, node, next, [l], false, er, rd, prs⟩ (.slice (some ⟨lb, lo, none⟩) 1 lc) (.slice pa prs.length pc)) 53) 53 zeroS
  have D0 := below_twice w (.cells (Scn.cells ⟨c, 1, 0, node, next, [l], false, er, rd, prs⟩ (.slice (some ⟨lb, lo, none⟩) 1 lc) (.slice pa prs.length pc)) 53) (.cells zeroS 53)
  go_enter Tryz.func21, Tryz.ntmps21
  go_upto_region 1 with fail
  generalize (w.alloc (.cells (Scn.cells ⟨c, 1, 0, node, next, [l], false, er, rd, prs⟩ (.slice (some ⟨lb, lo, none⟩) 1 lc) (.slice pa prs.length pc)) 53)).alloc (.cells zeroS 53) = w1 at *
  have z1 := A2.lt
  have H1 := Lib.hid (HH.out.below D0)
  have OO := Lib.hid (HH.out.out (Nat.le_refl w.heap.size))
  have OP := Lib.hid (HH.out.out (Nat.le_succ w.heap.size))
  have HI1 := Lib.hid (HI.out.go (w' := w1) (M := (fun z => N z ∧ z ≠ w.heap.size ∧ z ≠ w.heap.size + 1)) (fun z hz hl => ⟨hz, by omega, by omega⟩) (fun z _ hl => D0.block z hl))
  have HN1 := Lib.hid (show ∀ z, w1.heap.size ≤ z → (fun z => N z ∧ z ≠ w.heap.size ∧ z ≠ w.heap.size + 1) z from fun z hz => ⟨HN.out z (by omega), by omega, by omega⟩)
  have HNO := Lib.hid (show ∀ z, (fun z => N z ∧ z ≠ w.heap.size ∧ z ≠ w.heap.size + 1) z → ¬ Own k z from fun z hz => HNQ.out z hz.1)
  have x9 : w1.cell? ⟨w.heap.size, 9, none⟩ = some (.bool false) := A1.cell 9
  have x4 : w1.cell? ⟨w.heap.size, 4, none⟩ = some (.int .i64 1) := A1.cell 4
  have x5 : w1.cell? ⟨w.heap.size, 5, none⟩ = some (.int .i64 0) := A1.cell 5
  have x6 : w1.cell? ⟨w.heap.size, 6, none⟩ = some (.int .i64 node) := A1.cell 6
  have x7 : w1.cell? ⟨w.heap.size, 7, none⟩ = some (.int .u64 next) := A1.cell 7
  go_upto_region 13 with (first
    | (refine wpl_st rfl 3 _ _ rfl (Scn.cells ⟨c, 2, 0, node, (s.peek (s.nextAt node)), [l], false, er, rd, prs⟩ (.slice (some ⟨lb, lo, none⟩) 1 lc) (.slice pa prs.length pc)) rfl _ rfl B4 (by kernel_rfl) rfl rfl rfl ?_; intro w7 B7 O7)
    | (refine wpl_st rfl 26 _ _ rfl (Scn.cells ⟨c, 1, 0, node, (s.peek (s.nextAt node)), [l], false, er, rd, prs⟩ (.slice (some ⟨lb, lo, none⟩) 1 lc) (.slice pa prs.length pc)) rfl _ rfl (A1.only O3 OO.out.1) (by kernel_rfl) rfl rfl rfl ?_; intro w4 B4 O4)
    | (go_at_call 39; refine (wnext_any node _ H1.out).mono ?_; rintro e w3 ⟨rfl, H3, O3⟩))
  have H7 := (H3.but OO.out O4).but OO.out O7
  have I7 := ((HI1.out.only O3 HNO.out).only O4 (fun z hz e => hz.2.1 e)).only O7 (fun z hz e => hz.2.1 e)
  have A2q := ((A2.only O3 OP.out.1).only O4 (by show ¬ _ = _; omega)).only O7 (by show ¬ _ = _; omega)
  have OK7 : Only (OwnX k w.heap.size) w1 w7 := ((onlyX O3).trans (O4.mono fun _ _ e => .inr e)).trans (O7.mono fun _ _ e => .inr e)
  obtain ⟨y, hy⟩ : ∃ y, y = (⟨c, 2, 0, node, (s.peek (s.nextAt node)), [l], false, er, rd, prs⟩ : Scn) := ⟨_, rfl⟩
  have A7 : At w7 w.heap.size 53 (y.cells (.slice (some ⟨lb, lo, none⟩) 1 lc) (.slice pa prs.length pc)) := by rw [hy]; exact B7
  have L7 : ListsIn w7 (fun z => N z ∧ z ≠ w.heap.size ∧ z ≠ w.heap.size + 1) (.slice (some ⟨lb, lo, none⟩) 1 lc) y.lists := by rw [hy]; exact I7.lists
  have P7 : PairsIn w7 (fun z => N z ∧ z ≠ w.heap.size ∧ z ≠ w.heap.size + 1) (.slice pa prs.length pc) y.pairs := by rw [hy]; exact I7.pairs
  have HY := Lib.hid hy
  clear hy I7 x4 x5 x6 x7 x9 B7 B4
  have HF := Lib.hid (And.intro H7 (And.intro L7 (And.intro P7 OK7)))
  clear H7 L7 P7 OK7
  go_wp2_with (first
    | (refine wpl_st rfl 53 _ _ rfl (Scn.cells y (.slice (some ⟨lb, lo, none⟩) 1 lc) (.slice pa prs.length pc)) rfl _ rfl A2q (by kernel_rfl) rfl rfl rfl ?_; intro w8 A8 O8)
    | (refine wpl_ld rfl 53 _ rfl (Scn.cells y (.slice (some ⟨lb, lo, none⟩) 1 lc) (.slice pa prs.length pc)) rfl _ A7 Tryz.underlying53 rfl (by kernel_rfl) rfl ?_))
  obtain ⟨H7, L7, P7, OK7⟩ := HF.out
  refine bodyPost_ret (res_cell rfl _ _ _ _ _ rfl A8 Tryz.underlying53 rfl (by kernel_rfl)) rfl ?_
  have hy := HY.out
  subst hy
  have hg : ∀ z, (fun z => N z ∧ z ≠ w.heap.size ∧ z ≠ w.heap.size + 1) z → z < w7.heap.size → N z := fun z hz _ => hz.1
  have hk : ∀ z, (fun z => N z ∧ z ≠ w.heap.size ∧ z ≠ w.heap.size + 1) z → z < w7.heap.size → w8.heap[z]? = w7.heap[z]? := fun z hz hl => O8.block z hl (fun e => hz.2.2 e)
  refine ⟨_, _, rfl, H7.but OP.out O8, ⟨L7.go hg hk, P7.go hg hk⟩, ?_⟩
  exact ((Only.ofBelow _ D0).trans (only_drop2 OK7 O8)).mono fun z hz e => by rcases e with e | e | e; exact e; all_goals omega
set_option maxRecDepth 100000 in
set_option maxHeartbeats 8000000 in
theorem sstep_2 {k : Blks} {s : St} {N : Nat → Prop} (c : GCall) (node next er : Int) (rd : Bool) (prs l : List (Int × Int)) {lv pv : Value} (w : World) (h : Holds k s w) (hI : ScnIn w N ⟨c, 2, 0, node, next, [l], false, er, rd, prs⟩ lv pv) (hl : l.length ≤ 99999) (hc : s.c.buckets = 1) (hN : ∀ z, w.heap.size ≤ z → N z) (hNo : ∀ z, N z → ¬ Own k z) (hn : 0 ≤ next ∧ next ≤ 18446744073709551615) :
    Calls Tryz.prog 21 #[.pointer (some ⟨k.bw, 0, none⟩), Scn.val ⟨c, 2, 0, node, next, [l], false, er, rd, prs⟩ lv pv] w fun e w' => SOut k N ((s.load (s.wordAt (s.carried node))), (s.load (s.wordAt (s.carried node))).scnArrive ⟨c, 2, 0, node, next, [(s.judgeL c node (s.peek (s.wordAt (s.carried node))) l)], false, er, rd, prs⟩ (next / 2)) e w w' := by
  obtain ⟨lb, lo, lc, rfl⟩ := hI.lists.form1
  obtain ⟨pa, pc, rfl⟩ := hI.pairs.form
  have HH := Lib.hid h
  have HI := Lib.hid hI
  have HB1 := Lib.hid hc
  have HM := Lib.hid h.ok.may
  have HLL := Lib.hid (show l.length ≤ 100000 by omega)
  have HL9 := Lib.hid hl
  have HN := Lib.hid hN
  have HNQ := Lib.hid hNo
  have HNX := Lib.hid hn
  clear h hI hc hl hN hNo hn
  have A1 := (At.new w 53 (Scn.cells ⟨c, 2, 0, node, next, [l], false, er, rd, prs⟩ (.slice (some ⟨lb, lo, none⟩) 1 lc) (.slice pa prs.length pc))).alloc (.cells zeroS 53)
  have A2 := At.new1 w (.cells (Scn.cells ⟨c, 2, 0, node, next, [l], false, er, rd, prs⟩ (.slice (some ⟨lb, lo, none⟩) 1 lc) (.slice pa prs.length pc)) 53) 53 zeroS
  have D0 := below_twice w (.cells (Scn.cells ⟨c, 2, 0, node, next, [l], false, er, rd, prs⟩ (.slice (some ⟨lb, lo, none⟩) 1 lc) (.slice pa prs.length pc)) 53) (.cells zeroS 53)
  go_enter Tryz.func21, Tryz.ntmps21
  go_upto_region 1 with fail
  generalize (w.alloc (.cells (Scn.cells ⟨c, 2, 0, node, next, [l], false, er, rd, prs⟩ (.slice (some ⟨lb, lo, none⟩) 1 lc) (.slice pa prs.length pc)) 53)).alloc (.cells zeroS 53) = w1 at *
  have z1 := A2.lt
  have H1 := Lib.hid (HH.out.below D0)
  have OO := Lib.hid (HH.out.out (Nat.le_refl w.heap.size))
  have OP := Lib.hid (HH.out.out (Nat.le_succ w.heap.size))
  have HI1 := Lib.hid (HI.out.go (w' := w1) (M := (fun z => N z ∧ z ≠ w.heap.size ∧ z ≠ w.heap.size + 1)) (fun z hz hl => ⟨hz, by omega, by omega⟩) (fun z _ hl => D0.block z hl))
  have HN1 := Lib.hid (show ∀ z, w1.heap.size ≤ z → (fun z => N z ∧ z ≠ w.heap.size ∧ z ≠ w.heap.size + 1) z from fun z hz => ⟨HN.out z (by omega), by omega, by omega⟩)
  have HNO := Lib.hid (show ∀ z, (fun z => N z ∧ z ≠ w.heap.size ∧ z ≠ w.heap.size + 1) z → ¬ Own k z from fun z hz => HNQ.out z hz.1)
  have x9 : w1.cell? ⟨w.heap.size, 9, none⟩ = some (.bool false) := A1.cell 9
  have x4 : w1.cell? ⟨w.heap.size, 4, none⟩ = some (.int .i64 2) := A1.cell 4
  have x5 : w1.cell? ⟨w.heap.size, 5, none⟩ = some (.int .i64 0) := A1.cell 5
  have x6 : w1.cell? ⟨w.heap.size, 6, none⟩ = some (.int .i64 node) := A1.cell 6
  have x7 : w1.cell? ⟨w.heap.size, 7, none⟩ = some (.int .u64 next) := A1.cell 7
  have HJL := Lib.hid (show (s.judgeL c node (s.peek (s.wordAt (s.carried node))) l).length ≤ 100000 by have := judgeL_len s c node (s.peek (s.wordAt (s.carried node))) l; have := HL9.out; omega)
  go_upto_region 13 with (first
    | (go_at_call 69; refine (sarrive_any (s := (s.load (s.wordAt (s.carried node)))) c 2 node next false er rd prs (s.judgeL c node (s.peek (s.wordAt (s.carried node))) l) (next / 2) w.heap.size w3 H3 OO.out B3 ⟨L3, P3⟩ HJL.out HB1.out (fun z hz => HN1.out z (Nat.le_trans O3.size hz)) (fun q => q.2.1 rfl)).mono ?_; rintro e w7 ⟨rfl, hE⟩)
    | (go_at_call 70; refine (index_any next _ HNX.out.1 HNX.out.2).mono ?_; rintro e w4 ⟨rfl, rfl⟩)
    | (go_at_call 72; refine (sjudge_any c 2 node next false er rd prs l w.heap.size w1 H1.out OO.out A1 HI1.out.lists HLL.out HN1.out (fun q => q.2.1 rfl) HNO.out).mono ?_; rintro e w3 ⟨rfl, H3, hJ⟩
       obtain ⟨lvj, B3, L3, O3⟩ := hJ.out
       obtain ⟨lbj, loj, lcj, rfl⟩ := L3.form1
       have P3 := HI1.out.pairs.only O3 (fun z hz e => e.elim (HNO.out z hz) (fun e => hz.2.1 e))
       have x7 : w3.cell? ⟨w.heap.size, 7, none⟩ = some (.int .u64 next) := B3.cell 7))
  obtain ⟨pvq, A7, P7, O7⟩ := hE.out
  obtain ⟨paq, pcq, rfl⟩ := P7.form
  have H7 := H3.but OO.out O7
  have L7 := L3.only O7 (fun z hz e => hz.2.1 e)
  have A2q := (A2.only O3 (fun e => e.elim OP.out.1 (fun e => by omega))).only O7 (by show ¬ _ = _; omega)
  have OK7 : Only (OwnX k w.heap.size) w1 w7 := O3.trans (O7.mono fun _ _ e => .inr e)
  have hyl := scnArrive_lists (s.load (s.wordAt (s.carried node))) ⟨c, 2, 0, node, next, [(s.judgeL c node (s.peek (s.wordAt (s.carried node))) l)], false, er, rd, prs⟩ (next / 2)
  obtain ⟨y, hy⟩ : ∃ y, y = ((s.load (s.wordAt (s.carried node)))).scnArrive ⟨c, 2, 0, node, next, [(s.judgeL c node (s.peek (s.wordAt (s.carried node))) l)], false, er, rd, prs⟩ (next / 2) := ⟨_, rfl⟩
  rw [← hy] at A7 P7 hyl
  have HY := Lib.hid hy
  clear hy
  have L7 : ListsIn w7 (fun z => N z ∧ z ≠ w.heap.size ∧ z ≠ w.heap.size + 1) (.slice (some ⟨lbj, loj, none⟩) 1 lcj) y.lists := by rw [hyl]; exact L7
  generalize hpn : y.pairs.length = pnq at *
  clear hE hyl hpn x4 x5 x6 x7 x9 hJ B3 L3 P3 H3
  have HF := Lib.hid (And.intro H7 (And.intro L7 (And.intro P7 OK7)))
  clear H7 L7 P7 OK7
  go_wp2_with (first
    | (refine wpl_st rfl 53 _ _ rfl (Scn.cells y (.slice (some ⟨lbj, loj, none⟩) 1 lcj) (.slice paq pnq pcq)) rfl _ rfl A2q (by kernel_rfl) rfl rfl rfl ?_; intro w8 A8 O8)
    | (refine wpl_ld rfl 53 _ rfl (Scn.cells y (.slice (some ⟨lbj, loj, none⟩) 1 lcj) (.slice paq pnq pcq)) rfl _ A7 Tryz.underlying53 rfl (by kernel_rfl) rfl ?_))
  obtain ⟨H7, L7, P7, OK7⟩ := HF.out
  refine bodyPost_ret (res_cell rfl _ _ _ _ _ rfl A8 Tryz.underlying53 rfl (by kernel_rfl)) rfl ?_
  have hy := HY.out
  subst hy
  have hg : ∀ z, (fun z => N z ∧ z ≠ w.heap.size ∧ z ≠ w.heap.size + 1) z → z < w7.heap.size → N z := fun z hz _ => hz.1
  have hk : ∀ z, (fun z => N z ∧ z ≠ w.heap.size ∧ z ≠ w.heap.size + 1) z → z < w7.heap.size → w8.heap[z]? = w7.heap[z]? := fun z hz hl => O8.block z hl (fun e => hz.2.2 e)
  refine ⟨_, _, rfl, H7.but OP.out O8, ⟨L7.go hg hk, P7.go hg hk⟩, ?_⟩
  exact ((Only.ofBelow _ D0).trans (only_drop2 OK7 O8)).mono fun z hz e => by rcases e with e | e | e; exact e; all_goals omega
set_option maxRecDepth 100000 in
set_option maxHeartbeats 8000000 in
theorem sstep_x {k : Blks} {s : St} {N : Nat → Prop} (c : GCall) (phase bucket node next : Int) (lists : List (List (Int × Int))) (er : Int) (rd : Bool) (prs : List (Int × Int)) {lv pv : Value} (w : World) (h : Holds k s w) (hI : ScnIn w N ⟨c, phase, bucket, node, next, lists, false, er, rd, prs⟩ lv pv) (hp0 : phase ≠ 0) (hp1 : phase ≠ 1) (hp2 : phase ≠ 2) (hv : ∃ ao n cap, lv = .slice ao n cap) (hw : ∃ ao n cap, pv = .slice ao n cap) :
    Calls Tryz.prog 21 #[.pointer (some ⟨k.bw, 0, none⟩), Scn.val ⟨c, phase, bucket, node, next, lists, false, er, rd, prs⟩ lv pv] w fun e w' => SOut k N (s, ⟨c, phase, bucket, node, next, lists, true, er, rd, prs⟩) e w w' := by
  obtain ⟨a1, n1, q1, rfl⟩ := hv
  obtain ⟨a2, n2, q2, rfl⟩ := hw
  have HH := Lib.hid h
  have HI := Lib.hid hI
  have p0 : (phase == 0) = false := by simpa using hp0
  have p1 : (phase == 1) = false := by simpa using hp1
  have p2 : (phase == 2) = false := by simpa using hp2
  clear h hI hp0 hp1 hp2
  have A1 := (At.new w 53 (Scn.cells ⟨c, phase, bucket, node, next, lists, false, er, rd, prs⟩ (.slice a1 n1 q1) (.slice a2 n2 q2))).alloc (.cells zeroS 53)
  have A2 := At.new1 w (.cells (Scn.cells ⟨c, phase, bucket, node, next, lists, false, er, rd, prs⟩ (.slice a1 n1 q1) (.slice a2 n2 q2)) 53) 53 zeroS
  have D0 := below_twice w (.cells (Scn.cells ⟨c, phase, bucket, node, next, lists, false, er, rd, prs⟩ (.slice a1 n1 q1) (.slice a2 n2 q2)) 53) (.cells zeroS 53)
  go_enter Tryz.func21, Tryz.ntmps21
  go_upto_region 1 with fail
  generalize (w.alloc (.cells (Scn.cells ⟨c, phase, bucket, node, next, lists, false, er, rd, prs⟩ (.slice a1 n1 q1) (.slice a2 n2 q2)) 53)).alloc (.cells zeroS 53) = w1 at *
  have x9 : w1.cell? ⟨w.heap.size, 9, none⟩ = some (.bool false) := A1.cell 9
  have x4 : w1.cell? ⟨w.heap.size, 4, none⟩ = some (.int .i64 phase) := A1.cell 4
  go_wp2_with (first
    | (refine wpl_st rfl 53 _ _ rfl (Scn.cells ⟨c, phase, bucket, node, next, lists, true, er, rd, prs⟩ (.slice a1 n1 q1) (.slice a2 n2 q2)) rfl _ rfl (A2.only O3 (by show ¬ _ = _; omega)) (by kernel_rfl) rfl rfl rfl ?_; intro w4 A4 O4)
    | (refine wpl_ld rfl 53 _ rfl (Scn.cells ⟨c, phase, bucket, node, next, lists, true, er, rd, prs⟩ (.slice a1 n1 q1) (.slice a2 n2 q2)) rfl _ A3 Tryz.underlying53 rfl (by kernel_rfl) rfl ?_)
    | (refine wpl_st rfl 4 _ _ rfl (Scn.cells ⟨c, phase, bucket, node, next, lists, true, er, rd, prs⟩ (.slice a1 n1 q1) (.slice a2 n2 q2)) rfl _ rfl A1 (by kernel_rfl) rfl rfl rfl ?_; intro w3 A3 O3))
  have D4 : Below w.heap.size w w4 := (D0.trans (O3.below D0.size fun j hj e => by have e' : j = w.heap.size := e; omega)).trans (O4.below (Nat.le_trans D0.size O3.size) fun j hj e => by have e' : j = w.heap.size + 1 := e; omega)
  refine bodyPost_ret (res_cell rfl _ _ _ _ _ rfl A4 Tryz.underlying53 rfl (by kernel_rfl)) rfl ?_
  exact ⟨_, _, rfl, HH.out.below D4, ⟨HI.out.lists.below D4, HI.out.pairs.below D4⟩, .ofBelow _ D4⟩
end Go.Proofs.YtccmjljlfgbicaaGreat

/- Contracts of scan.New, and of scan.Step whole. Printed by scnn.py. -/
namespace Go.Proofs.YtccmjljlfgbicaaGreat
open Go.ChangeShapes Go.WideShapes Go.ChangeAt Go.RowKit

theorem ListsIn.formN {w : World} {N : Nat → Prop} {v : Value} {ls : List (List (Int × Int))} (h : ListsIn w N v ls) : ∃ ao n cap, v = .slice ao n cap := by
  rcases h with ⟨_, rfl⟩ | ⟨b, o, cap, rfl, _⟩
  · exact ⟨_, _, _, rfl⟩
  · exact ⟨_, _, _, rfl⟩
theorem sstep_any {k : Blks} {s : St} {N : Nat → Prop} (x : Scn) {lv pv : Value} (w : World) (h : Holds k s w) (hI : ScnIn w N x lv pv) (ha : x.done = false → 0 ≤ x.phase → x.phase ≤ 2 → x.bucket = 0 ∧ ∃ l, x.lists = [l] ∧ l.length ≤ 99999) (hn : 0 ≤ x.next ∧ x.next ≤ 18446744073709551615) (hc : s.c.buckets = 1) (hN : ∀ z, w.heap.size ≤ z → N z) (hNo : ∀ z, N z → ¬ Own k z) :
    Calls Tryz.prog 21 #[.pointer (some ⟨k.bw, 0, none⟩), x.val lv pv] w fun e w' => SOut k N (s.scnStep x) e w w' := by
  obtain ⟨ap, cp, hpv⟩ := hI.pairs.form
  have hfp : ∃ ao n cap, pv = .slice ao n cap := ⟨_, _, _, hpv⟩
  unfold St.scnStep
  cases hd : x.done with
  | true => rw [if_pos rfl]; exact sstep_done x w h hI hd hI.lists.formN hfp
  | false =>
    rw [if_neg (by decide)]
    obtain ⟨c, phase, bucket, node, next, lists, done, er, rd, prs⟩ := x
    simp only at hd ha hn ⊢
    subst hd
    by_cases h0 : phase = 0
    · subst h0
      obtain ⟨rfl, l, rfl, hl⟩ := ha rfl (by decide) (by decide)
      rw [if_pos rfl]
      exact sstep_0 c node next er rd prs l w h hI hl hc hN hNo hn
    rw [if_neg h0]
    by_cases h1 : phase = 1
    · subst h1
      obtain ⟨rfl, l, rfl, hl⟩ := ha rfl (by decide) (by decide)
      rw [if_pos rfl]
      exact sstep_1 c node next er rd prs l w h hI hl hc hN hNo hn
    rw [if_neg h1]
    by_cases h2 : phase = 2
    · subst h2
      obtain ⟨rfl, l, rfl, hl⟩ := ha rfl (by decide) (by decide)
      rw [if_pos rfl]
      have hj : s.scnJudge ⟨c, 2, 0, node, next, [l], false, er, rd, prs⟩ (s.peek (s.wordAt (s.carried node))) = ⟨c, 2, 0, node, next, [s.judgeL c node (s.peek (s.wordAt (s.carried node))) l], false, er, rd, prs⟩ := by
        unfold St.scnJudge St.judgeL
        show (if _ then _ else _) = _
        split <;> rfl
      rw [hj]
      exact sstep_2 c node next er rd prs l w h hI hl hc hN hNo hn
    rw [if_neg h2]
    exact sstep_x c phase bucket node next lists er rd prs w h hI h0 h1 h2 hI.lists.formN hfp
set_option maxRecDepth 100000 in
set_option maxHeartbeats 1000000 in
theorem swrong_any (er : Int) (w : World) :
    Calls Tryz.prog 68 #[.int .i64 er] w fun e w' => e = .returned (.agg ((Scn.wrong er).cells (.slice none 0 0) (.slice none 0 0))) ∧ Below w.heap.size w w' := by
  go_enter Tryz.func68, Tryz.ntmps68
  go_wp2_with (refine wpl_st rfl 53 _ _ rfl (Scn.cells (Scn.wrong er) (.slice none 0 0) (.slice none 0 0)) rfl _ rfl (At.new w 53 zeroS) (by kernel_rfl) rfl rfl rfl ?_; intro w2 A2 O2)
  refine bodyPost_ret (res_cell rfl _ _ _ _ _ rfl A2 Tryz.underlying53 rfl (by kernel_rfl)) rfl ?_
  exact ⟨rfl, ((Below.refl _ w).alloc (Nat.le_refl _) _).trans (O2.below (by simp) fun j hj e => by have e' : j = w.heap.size := e; omega)⟩
theorem wrong_in (w : World) (N : Nat → Prop) (er : Int) : ScnIn w N (Scn.wrong er) (.slice none 0 0) (.slice none 0 0) := ⟨ListsIn.nil _ _, PairsIn.nil _ _⟩
set_option maxRecDepth 100000 in
set_option maxHeartbeats 8000000 in
theorem snew_kind {k : Blks} {s : St} {N : Nat → Prop} (thread : Int) (c : GCall) (w : World) (h : Holds k s w) (hf : c.fits) (hN : ∀ z, w.heap.size ≤ z → N z) (hk : c.kind ≠ 4) :
    Calls Tryz.prog 17 #[.pointer (some ⟨k.bw, 0, none⟩), .int .i64 thread, .agg #[.int .i64 c.kind, .int .u64 c.key, .int .u64 c.val, .int .i64 c.limit]] w fun e w' => SOut k N (s, Scn.wrong 1) e w w' := by
  have hk4 : (c.kind == 4) = false := by simpa using hk
  clear hk
  have HF := Lib.hid hf
  have HH := Lib.hid h
  have HN := Lib.hid hN
  have A1 := (At.new w 28 #[.int .i64 c.kind, .int .u64 c.key, .int .u64 c.val, .int .i64 c.limit]).alloc (.cells zeroS 53)
  have Z1 := At.new1 w (.cells #[.int .i64 c.kind, .int .u64 c.key, .int .u64 c.val, .int .i64 c.limit] 28) 53 zeroS
  have D1 := below_twice w (.cells #[.int .i64 c.kind, .int .u64 c.key, .int .u64 c.val, .int .i64 c.limit] 28) (.cells zeroS 53)
  clear h hN hf
  go_enter Tryz.func17, Tryz.ntmps17
  go_upto_region 1 with fail
  generalize (w.alloc (.cells #[.int .i64 c.kind, .int .u64 c.key, .int .u64 c.val, .int .i64 c.limit] 28)).alloc (.cells zeroS 53) = w1 at *
  have H1 := Lib.hid (HH.out.below D1)
  have OP := Lib.hid (HH.out.out (Nat.le_succ w.heap.size))
  have OO := Lib.hid (HH.out.out (Nat.le_refl w.heap.size))
  have z1 := Z1.lt
  have x0 : w1.cell? ⟨w.heap.size, 0, none⟩ = some (.int .i64 c.kind) := A1.cell 0
  go_wp2_with (first
    | (refine wpl_st rfl 53 _ _ rfl (Scn.cells (Scn.wrong 1) (.slice none 0 0) (.slice none 0 0)) rfl _ rfl (Z1.below' hb2) (by kernel_rfl) rfl rfl rfl ?_; intro w3 A3 O3)
    | (go_at_call 68; refine (swrong_any 1 _).mono ?_; rintro e w2 ⟨rfl, hb2⟩))
  have D3 : Below w.heap.size w w3 := (D1.trans (hb2.mono D1.size)).trans (O3.below (Nat.le_trans D1.size hb2.size) fun j hj e => by have e' : j = w.heap.size + 1 := e; omega)
  refine bodyPost_ret (res_cell rfl _ _ _ _ _ rfl A3 Tryz.underlying53 rfl (by kernel_rfl)) rfl ?_
  exact ⟨_, _, rfl, HH.out.below D3, wrong_in _ _ _, .ofBelow _ D3⟩
set_option maxRecDepth 100000 in
set_option maxHeartbeats 8000000 in
theorem snew_bad {k : Blks} {s : St} {N : Nat → Prop} (thread : Int) (c : GCall) (w : World) (h : Holds k s w) (hf : c.fits) (hN : ∀ z, w.heap.size ≤ z → N z) (hk : c.kind = 4) (he : (s.begin thread c).2.2 ≠ 0) :
    Calls Tryz.prog 17 #[.pointer (some ⟨k.bw, 0, none⟩), .int .i64 thread, .agg #[.int .i64 c.kind, .int .u64 c.key, .int .u64 c.val, .int .i64 c.limit]] w fun e w' => SOut k N ((s.begin thread c).1, Scn.wrong (s.begin thread c).2.2) e w w' := by
  have hk4 : (c.kind == 4) = true := by simpa using hk
  have he0 : ((s.begin thread c).2.2 == 0) = false := by simpa using he
  have HE0 := Lib.hid he0
  clear hk he he0
  have HF := Lib.hid hf
  have HH := Lib.hid h
  have HN := Lib.hid hN
  have A1 := (At.new w 28 #[.int .i64 c.kind, .int .u64 c.key, .int .u64 c.val, .int .i64 c.limit]).alloc (.cells zeroS 53)
  have Z1 := At.new1 w (.cells #[.int .i64 c.kind, .int .u64 c.key, .int .u64 c.val, .int .i64 c.limit] 28) 53 zeroS
  have D1 := below_twice w (.cells #[.int .i64 c.kind, .int .u64 c.key, .int .u64 c.val, .int .i64 c.limit] 28) (.cells zeroS 53)
  clear h hN hf
  go_enter Tryz.func17, Tryz.ntmps17
  go_upto_region 1 with fail
  generalize (w.alloc (.cells #[.int .i64 c.kind, .int .u64 c.key, .int .u64 c.val, .int .i64 c.limit] 28)).alloc (.cells zeroS 53) = w1 at *
  have H1 := Lib.hid (HH.out.below D1)
  have OP := Lib.hid (HH.out.out (Nat.le_succ w.heap.size))
  have OO := Lib.hid (HH.out.out (Nat.le_refl w.heap.size))
  have z1 := Z1.lt
  have x0 : w1.cell? ⟨w.heap.size, 0, none⟩ = some (.int .i64 c.kind) := A1.cell 0
  obtain ⟨-, -, g6, lw1⟩ := H1.out.wfacts
  go_upto_region 3 with fail
  refine wp_region_C (l := [_, _, _, _, _, _, _, _, _, _, _, _]) (TG 6 99 [3, 5] (fun j v => match j with | 0 => v = .pointer (some ⟨k.bw, 0, none⟩) | 1 => v = .pointer (some ⟨k.bw, 0, none⟩) | 2 => v = .pointer (some ⟨k.bw, 6, none⟩) | 3 => v = .pointer (some ⟨k.bb, 0, none⟩) | 4 => v = .int .i64 thread | 5 => v = .agg #[.int .i64 c.kind, .int .u64 c.key, .int .u64 c.val, .int .i64 c.limit] | 6 => v = .tuple #[.int .i64 (s.begin thread c).2.1, .int .i64 (s.begin thread c).2.2] | 7 => v = .tuple #[.int .i64 (s.begin thread c).2.1, .int .i64 (s.begin thread c).2.2] | 8 => v = .int .i64 (s.begin thread c).2.1 | 9 => v = .int .i64 (s.begin thread c).2.2 | 10 => v = .int .i64 (s.begin thread c).2.1 | 11 => v = .int .i64 (s.begin thread c).2.2 | _ => True) w1 (fun w' => Holds k (s.begin thread c).1 w' ∧ Only (Own k) w1 w') (fun _ => False)) (by kernel_rfl) (by kernel_rfl) (fun us => TG.start us) ⟨?_, ?_, ?_, ?_, ?_, ?_, ?_, ?_, ?_, ?_, ?_, ?_, trivial⟩ ?_
  · intro dn us w6 A hev hy hG hcl hdn hdep K hK
    have e0 : A.eval (.tmp 0) = .pointer (some ⟨k.bw, 0, none⟩) := by rw [hev]; rfl
    rw [if_pos (by rfl)]; unfold Oper.wp execOp; generalize A.eval = ev at e0 ⊢; go_simp; exact hK _ _ (hG.pure (by decide) (by decide) (by first | rfl | (simp; done) | (simp; omega) | (simp; assumption)))
  · intro dn us w6 A hev hy hG hcl hdn hdep K hK
    have e0 : A.eval (.tmp 19) = .pointer (some ⟨k.bw, 0, none⟩) := by rw [hev]; exact hG.pre 0 (dm 0 hdep rfl)
    rw [if_pos (by rfl)]; unfold Oper.wp execOp; generalize A.eval = ev at e0 ⊢; go_simp; exact hK _ _ (hG.pure (by decide) (by decide) (by first | rfl | (simp; done) | (simp; omega) | (simp; assumption)))
  · intro dn us w6 A hev hy hG hcl hdn hdep K hK
    have e0 : A.eval (.tmp 20) = .pointer (some ⟨k.bw, 0, none⟩) := by rw [hev]; exact hG.pre 1 (dm 1 hdep rfl)
    rw [if_pos (by rfl)]; unfold Oper.wp execOp; generalize A.eval = ev at e0 ⊢; go_simp; exact hK _ _ (hG.pure (by decide) (by decide) (by first | rfl | (simp; done) | (simp; omega) | (simp; assumption)))
  · intro dn us w6 A hev hy hG hcl hdn hdep K hK
    have e0 : A.eval (.tmp 21) = .pointer (some ⟨k.bw, 6, none⟩) := by rw [hev]; exact hG.pre 2 (dm 2 hdep rfl)
    have hb6 := hG.ph0 (hG.not1 hdn (by decide))
    have cc0 : w6.cell? ⟨k.bw, 6, none⟩ = some (.pointer (some ⟨k.bb, 0, none⟩)) := by rw [hb6.cell lw1]; exact g6
    rw [if_pos (by rfl)]; unfold Oper.wp execOp; generalize A.eval = ev at e0 ⊢; go_simp; exact hK _ _ (hG.pure (by decide) (by decide) (by first | rfl | (simp; done) | (simp; omega) | (simp; assumption)))
  · intro dn us w6 A hev hy hG hcl hdn hdep K hK
    have e0 : A.eval (.tmp 1) = .int .i64 thread := by rw [hev]; rfl
    rw [if_pos (by rfl)]; unfold Oper.wp execOp; generalize A.eval = ev at e0 ⊢; go_simp; exact hK _ _ (hG.pure (by decide) (by decide) (by first | rfl | (simp; done) | (simp; omega) | (simp; assumption)))
  · intro dn us w6 A hev hy hG hcl hdn hdep K hK
    have hb6 := hG.ph0 (hG.not1 hdn (by decide))
    have e0 : A.eval (.tmp 5) = .pointer (some ⟨w.heap.size, 0, none⟩) := by rw [hev]; rfl
    rw [if_pos (by rfl)]
    refine op_ld 28 (.tmp 5) rfl (#[.int .i64 c.kind, .int .u64 c.key, .int .u64 c.val, .int .i64 c.limit]) e0 _ (A1.below' hb6) Tryz.underlying28 rfl (by kernel_rfl) rfl ?_
    exact hK _ _ (hG.pure (by decide) (by decide) rfl)
  · intro dn us w6 A hev hy hG hcl hdn hdep K hK
    have d3 : dn 3 = true := allD_mem hdep (by decide)
    have d4 : dn 4 = true := allD_mem hdep (by decide)
    have d5 : dn 5 = true := allD_mem hdep (by decide)
    have e0 : A.eval (.tmp 22) = .pointer (some ⟨k.bb, 0, none⟩) := by rw [hev]; exact hG.pre 3 d3
    have e1 : A.eval (.tmp 23) = .int .i64 thread := by rw [hev]; exact hG.pre 4 d4
    have e2 : A.eval (.tmp 24) = .agg #[.int .i64 c.kind, .int .u64 c.key, .int .u64 c.val, .int .i64 c.limit] := by rw [hev]; exact hG.pre 5 d5
    have ef : A.eval (.func 57) = .func (.func 57) #[] #[] := by rw [hev]; rfl
    have hb6 := hG.ph0 hdn
    rw [if_pos (by rfl)]; unfold Oper.wp execOp; generalize A.eval = ev at e0 e1 e2 ef ⊢; go_simp; refine (begin_any thread c w6 (H1.out.below hb6) HF.out).mono ?_
    rintro e wq ⟨rfl, hH, hO⟩
    exact hK _ _ (hG.turn1 hdn (by decide) (by intro j hj; simp at hj; rcases hj with rfl | rfl <;> assumption) rfl ⟨hH, (Only.ofBelow _ hb6).trans hO⟩)
  · intro dn us w6 A hev hy hG hcl hdn hdep K hK
    have e0 : A.eval (.tmp 25) = .tuple #[.int .i64 (s.begin thread c).2.1, .int .i64 (s.begin thread c).2.2] := by rw [hev]; exact hG.pre 6 (dm 6 hdep rfl)
    rw [if_pos (by rfl)]; unfold Oper.wp execOp; generalize A.eval = ev at e0 ⊢; go_simp; exact hK _ _ (hG.pure (by decide) (by decide) (by first | rfl | (simp; done) | (simp; omega) | (simp; assumption)))
  · intro dn us w6 A hev hy hG hcl hdn hdep K hK
    have e0 : A.eval (.tmp 18) = .tuple #[.int .i64 (s.begin thread c).2.1, .int .i64 (s.begin thread c).2.2] := by rw [hev]; exact hG.pre 7 (dm 7 hdep rfl)
    rw [if_pos (by rfl)]; unfold Oper.wp execOp; generalize A.eval = ev at e0 ⊢; go_simp; exact hK _ _ (hG.pure (by decide) (by decide) (by first | rfl | (simp; done) | (simp; omega) | (simp; assumption)))
  · intro dn us w6 A hev hy hG hcl hdn hdep K hK
    have e0 : A.eval (.tmp 18) = .tuple #[.int .i64 (s.begin thread c).2.1, .int .i64 (s.begin thread c).2.2] := by rw [hev]; exact hG.pre 7 (dm 7 hdep rfl)
    rw [if_pos (by rfl)]; unfold Oper.wp execOp; generalize A.eval = ev at e0 ⊢; go_simp; exact hK _ _ (hG.pure (by decide) (by decide) (by first | rfl | (simp; done) | (simp; omega) | (simp; assumption)))
  · intro dn us w6 A hev hy hG hcl hdn hdep K hK
    have e0 : A.eval (.tmp 26) = .int .i64 (s.begin thread c).2.1 := by rw [hev]; exact hG.pre 8 (dm 8 hdep rfl)
    rw [if_pos (by rfl)]; unfold Oper.wp execOp; generalize A.eval = ev at e0 ⊢; go_simp; exact hK _ _ (hG.pure (by decide) (by decide) (by first | rfl | (simp; done) | (simp; omega) | (simp; assumption)))
  · intro dn us w6 A hev hy hG hcl hdn hdep K hK
    have e0 : A.eval (.tmp 27) = .int .i64 (s.begin thread c).2.2 := by rw [hev]; exact hG.pre 9 (dm 9 hdep rfl)
    rw [if_pos (by rfl)]; unfold Oper.wp execOp; generalize A.eval = ev at e0 ⊢; go_simp; exact hK _ _ (hG.pure (by decide) (by decide) (by first | rfl | (simp; done) | (simp; omega) | (simp; assumption)))
  intro dn us w3 hG hall
  obtain ⟨H3, O3⟩ := hG.ph1 (hall 6 (by decide)) (by
    cases q : dn 99 with
    | false => rfl
    | true => exact (hG.ph2 q).elim)
  have u10 : us 10 = .int .i64 (s.begin thread c).2.1 := hG.pre 10 (hall 10 (by decide))
  have u11 : us 11 = .int .i64 (s.begin thread c).2.2 := hG.pre 11 (hall 11 (by decide))
  simp only [fillA, fillT, Nat.reduceAdd, List.setIfInBounds_toArray, List.set_cons_zero, List.set_cons_succ, u10, u11]
  clear hG hall u10 u11 g6
  have Z3 := Z1.only O3 OP.out.1
  have he0 := HE0.out
  generalize hbb : s.begin thread c = bb at *
  obtain ⟨s', op, er⟩ := bb
  have HBB := Lib.hid hbb
  have HH3 := Lib.hid H3
  have he1 : (er != 0) = true := by simpa using he0
  have he2 : ¬ er = 0 := by simpa using he0
  clear hbb H3 he0
  go_wp2_with (first
    | (refine wpl_st rfl 53 _ _ rfl (Scn.cells (Scn.wrong er) (.slice none 0 0) (.slice none 0 0)) rfl _ rfl (Z3.below' hb4) (by kernel_rfl) rfl rfl rfl ?_; intro w5 A5 O5)
    | (go_at_call 68; refine (swrong_any er _).mono ?_; rintro e w4 ⟨rfl, hb4⟩))
  refine bodyPost_ret (res_cell rfl _ _ _ _ _ rfl A5 Tryz.underlying53 rfl (by kernel_rfl)) rfl ?_
  rw [HBB.out]
  refine ⟨_, _, rfl, (HH3.out.below hb4).but OP.out O5, wrong_in _ _ _, ?_⟩
  exact (((Only.ofBelow (fun j => Own k j ∨ j = w.heap.size + 1) D1).trans (O3.mono fun _ _ e => .inl e)).thenBelow hb4 |>.trans (O5.mono fun _ _ e => .inr e)).mono fun z hz e => by
    rcases e with e | e
    · exact e
    · omega
set_option maxRecDepth 100000 in
set_option maxHeartbeats 8000000 in
theorem snew_ok {k : Blks} {s : St} {N : Nat → Prop} (thread : Int) (c : GCall) (w : World) (h : Holds k s w) (hf : c.fits) (hN : ∀ z, w.heap.size ≤ z → N z) (hk : c.kind = 4) (he : (s.begin thread c).2.2 = 0) (hc : s.c.buckets = 1) :
    Calls Tryz.prog 17 #[.pointer (some ⟨k.bw, 0, none⟩), .int .i64 thread, .agg #[.int .i64 c.kind, .int .u64 c.key, .int .u64 c.val, .int .i64 c.limit]] w fun e w' => SOut k N ((s.begin thread c).1, Scn.start c s.c.buckets) e w w' := by
  have hk4 : (c.kind == 4) = true := by simpa using hk
  have HE0 := Lib.hid he
  have HC0 := Lib.hid hc
  clear hk he hc
  have HF := Lib.hid hf
  have HH := Lib.hid h
  have HN := Lib.hid hN
  have A1 := (At.new w 28 #[.int .i64 c.kind, .int .u64 c.key, .int .u64 c.val, .int .i64 c.limit]).alloc (.cells zeroS 53)
  have Z1 := At.new1 w (.cells #[.int .i64 c.kind, .int .u64 c.key, .int .u64 c.val, .int .i64 c.limit] 28) 53 zeroS
  have D1 := below_twice w (.cells #[.int .i64 c.kind, .int .u64 c.key, .int .u64 c.val, .int .i64 c.limit] 28) (.cells zeroS 53)
  clear h hN hf
  go_enter Tryz.func17, Tryz.ntmps17
  go_upto_region 1 with fail
  generalize (w.alloc (.cells #[.int .i64 c.kind, .int .u64 c.key, .int .u64 c.val, .int .i64 c.limit] 28)).alloc (.cells zeroS 53) = w1 at *
  have H1 := Lib.hid (HH.out.below D1)
  have OP := Lib.hid (HH.out.out (Nat.le_succ w.heap.size))
  have OO := Lib.hid (HH.out.out (Nat.le_refl w.heap.size))
  have z1 := Z1.lt
  have x0 : w1.cell? ⟨w.heap.size, 0, none⟩ = some (.int .i64 c.kind) := A1.cell 0
  obtain ⟨-, -, g6, lw1⟩ := H1.out.wfacts
  go_upto_region 3 with fail
  refine wp_region_C (l := [_, _, _, _, _, _, _, _, _, _, _, _]) (TG 6 99 [3, 5] (fun j v => match j with | 0 => v = .pointer (some ⟨k.bw, 0, none⟩) | 1 => v = .pointer (some ⟨k.bw, 0, none⟩) | 2 => v = .pointer (some ⟨k.bw, 6, none⟩) | 3 => v = .pointer (some ⟨k.bb, 0, none⟩) | 4 => v = .int .i64 thread | 5 => v = .agg #[.int .i64 c.kind, .int .u64 c.key, .int .u64 c.val, .int .i64 c.limit] | 6 => v = .tuple #[.int .i64 (s.begin thread c).2.1, .int .i64 (s.begin thread c).2.2] | 7 => v = .tuple #[.int .i64 (s.begin thread c).2.1, .int .i64 (s.begin thread c).2.2] | 8 => v = .int .i64 (s.begin thread c).2.1 | 9 => v = .int .i64 (s.begin thread c).2.2 | 10 => v = .int .i64 (s.begin thread c).2.1 | 11 => v = .int .i64 (s.begin thread c).2.2 | _ => True) w1 (fun w' => Holds k (s.begin thread c).1 w' ∧ Only (Own k) w1 w') (fun _ => False)) (by kernel_rfl) (by kernel_rfl) (fun us => TG.start us) ⟨?_, ?_, ?_, ?_, ?_, ?_, ?_, ?_, ?_, ?_, ?_, ?_, trivial⟩ ?_
  · intro dn us w6 A hev hy hG hcl hdn hdep K hK
    have e0 : A.eval (.tmp 0) = .pointer (some ⟨k.bw, 0, none⟩) := by rw [hev]; rfl
    rw [if_pos (by rfl)]; unfold Oper.wp execOp; generalize A.eval = ev at e0 ⊢; go_simp; exact hK _ _ (hG.pure (by decide) (by decide) (by first | rfl | (simp; done) | (simp; omega) | (simp; assumption)))
  · intro dn us w6 A hev hy hG hcl hdn hdep K hK
    have e0 : A.eval (.tmp 19) = .pointer (some ⟨k.bw, 0, none⟩) := by rw [hev]; exact hG.pre 0 (dm 0 hdep rfl)
    rw [if_pos (by rfl)]; unfold Oper.wp execOp; generalize A.eval = ev at e0 ⊢; go_simp; exact hK _ _ (hG.pure (by decide) (by decide) (by first | rfl | (simp; done) | (simp; omega) | (simp; assumption)))
  · intro dn us w6 A hev hy hG hcl hdn hdep K hK
    have e0 : A.eval (.tmp 20) = .pointer (some ⟨k.bw, 0, none⟩) := by rw [hev]; exact hG.pre 1 (dm 1 hdep rfl)
    rw [if_pos (by rfl)]; unfold Oper.wp execOp; generalize A.eval = ev at e0 ⊢; go_simp; exact hK _ _ (hG.pure (by decide) (by decide) (by first | rfl | (simp; done) | (simp; omega) | (simp; assumption)))
  · intro dn us w6 A hev hy hG hcl hdn hdep K hK
    have e0 : A.eval (.tmp 21) = .pointer (some ⟨k.bw, 6, none⟩) := by rw [hev]; exact hG.pre 2 (dm 2 hdep rfl)
    have hb6 := hG.ph0 (hG.not1 hdn (by decide))
    have cc0 : w6.cell? ⟨k.bw, 6, none⟩ = some (.pointer (some ⟨k.bb, 0, none⟩)) := by rw [hb6.cell lw1]; exact g6
    rw [if_pos (by rfl)]; unfold Oper.wp execOp; generalize A.eval = ev at e0 ⊢; go_simp; exact hK _ _ (hG.pure (by decide) (by decide) (by first | rfl | (simp; done) | (simp; omega) | (simp; assumption)))
  · intro dn us w6 A hev hy hG hcl hdn hdep K hK
    have e0 : A.eval (.tmp 1) = .int .i64 thread := by rw [hev]; rfl
    rw [if_pos (by rfl)]; unfold Oper.wp execOp; generalize A.eval = ev at e0 ⊢; go_simp; exact hK _ _ (hG.pure (by decide) (by decide) (by first | rfl | (simp; done) | (simp; omega) | (simp; assumption)))
  · intro dn us w6 A hev hy hG hcl hdn hdep K hK
    have hb6 := hG.ph0 (hG.not1 hdn (by decide))
    have e0 : A.eval (.tmp 5) = .pointer (some ⟨w.heap.size, 0, none⟩) := by rw [hev]; rfl
    rw [if_pos (by rfl)]
    refine op_ld 28 (.tmp 5) rfl (#[.int .i64 c.kind, .int .u64 c.key, .int .u64 c.val, .int .i64 c.limit]) e0 _ (A1.below' hb6) Tryz.underlying28 rfl (by kernel_rfl) rfl ?_
    exact hK _ _ (hG.pure (by decide) (by decide) rfl)
  · intro dn us w6 A hev hy hG hcl hdn hdep K hK
    have d3 : dn 3 = true := allD_mem hdep (by decide)
    have d4 : dn 4 = true := allD_mem hdep (by decide)
    have d5 : dn 5 = true := allD_mem hdep (by decide)
    have e0 : A.eval (.tmp 22) = .pointer (some ⟨k.bb, 0, none⟩) := by rw [hev]; exact hG.pre 3 d3
    have e1 : A.eval (.tmp 23) = .int .i64 thread := by rw [hev]; exact hG.pre 4 d4
    have e2 : A.eval (.tmp 24) = .agg #[.int .i64 c.kind, .int .u64 c.key, .int .u64 c.val, .int .i64 c.limit] := by rw [hev]; exact hG.pre 5 d5
    have ef : A.eval (.func 57) = .func (.func 57) #[] #[] := by rw [hev]; rfl
    have hb6 := hG.ph0 hdn
    rw [if_pos (by rfl)]; unfold Oper.wp execOp; generalize A.eval = ev at e0 e1 e2 ef ⊢; go_simp; refine (begin_any thread c w6 (H1.out.below hb6) HF.out).mono ?_
    rintro e wq ⟨rfl, hH, hO⟩
    exact hK _ _ (hG.turn1 hdn (by decide) (by intro j hj; simp at hj; rcases hj with rfl | rfl <;> assumption) rfl ⟨hH, (Only.ofBelow _ hb6).trans hO⟩)
  · intro dn us w6 A hev hy hG hcl hdn hdep K hK
    have e0 : A.eval (.tmp 25) = .tuple #[.int .i64 (s.begin thread c).2.1, .int .i64 (s.begin thread c).2.2] := by rw [hev]; exact hG.pre 6 (dm 6 hdep rfl)
    rw [if_pos (by rfl)]; unfold Oper.wp execOp; generalize A.eval = ev at e0 ⊢; go_simp; exact hK _ _ (hG.pure (by decide) (by decide) (by first | rfl | (simp; done) | (simp; omega) | (simp; assumption)))
  · intro dn us w6 A hev hy hG hcl hdn hdep K hK
    have e0 : A.eval (.tmp 18) = .tuple #[.int .i64 (s.begin thread c).2.1, .int .i64 (s.begin thread c).2.2] := by rw [hev]; exact hG.pre 7 (dm 7 hdep rfl)
    rw [if_pos (by rfl)]; unfold Oper.wp execOp; generalize A.eval = ev at e0 ⊢; go_simp; exact hK _ _ (hG.pure (by decide) (by decide) (by first | rfl | (simp; done) | (simp; omega) | (simp; assumption)))
  · intro dn us w6 A hev hy hG hcl hdn hdep K hK
    have e0 : A.eval (.tmp 18) = .tuple #[.int .i64 (s.begin thread c).2.1, .int .i64 (s.begin thread c).2.2] := by rw [hev]; exact hG.pre 7 (dm 7 hdep rfl)
    rw [if_pos (by rfl)]; unfold Oper.wp execOp; generalize A.eval = ev at e0 ⊢; go_simp; exact hK _ _ (hG.pure (by decide) (by decide) (by first | rfl | (simp; done) | (simp; omega) | (simp; assumption)))
  · intro dn us w6 A hev hy hG hcl hdn hdep K hK
    have e0 : A.eval (.tmp 26) = .int .i64 (s.begin thread c).2.1 := by rw [hev]; exact hG.pre 8 (dm 8 hdep rfl)
    rw [if_pos (by rfl)]; unfold Oper.wp execOp; generalize A.eval = ev at e0 ⊢; go_simp; exact hK _ _ (hG.pure (by decide) (by decide) (by first | rfl | (simp; done) | (simp; omega) | (simp; assumption)))
  · intro dn us w6 A hev hy hG hcl hdn hdep K hK
    have e0 : A.eval (.tmp 27) = .int .i64 (s.begin thread c).2.2 := by rw [hev]; exact hG.pre 9 (dm 9 hdep rfl)
    rw [if_pos (by rfl)]; unfold Oper.wp execOp; generalize A.eval = ev at e0 ⊢; go_simp; exact hK _ _ (hG.pure (by decide) (by decide) (by first | rfl | (simp; done) | (simp; omega) | (simp; assumption)))
  intro dn us w3 hG hall
  obtain ⟨H3, O3⟩ := hG.ph1 (hall 6 (by decide)) (by
    cases q : dn 99 with
    | false => rfl
    | true => exact (hG.ph2 q).elim)
  have u10 : us 10 = .int .i64 (s.begin thread c).2.1 := hG.pre 10 (hall 10 (by decide))
  have u11 : us 11 = .int .i64 (s.begin thread c).2.2 := hG.pre 11 (hall 11 (by decide))
  rw [HE0.out] at u11
  simp only [fillA, fillT, Nat.reduceAdd, List.setIfInBounds_toArray, List.set_cons_zero, List.set_cons_succ, u10, u11]
  clear hG hall u10 u11 g6
  have Z3 := Z1.only O3 OP.out.1
  have A3 := A1.only O3 OO.out.1
  have HH3 := Lib.hid H3
  have hcc := (begin_same s thread c).1
  obtain ⟨⟨-, g1, -, -, -⟩, -, -, lw3⟩ := H3.wfacts
  rw [hcc, HC0.out] at g1
  have OA : Only (fun j => Own k j ∨ j = w.heap.size + 1) w w3 := (Only.ofBelow (fun j => Own k j ∨ j = w.heap.size + 1) D1).trans (O3.mono fun _ _ e => .inl e)
  clear H3 hcc x0
  obtain ⟨ii, hii, hiz0, hiz1, hiz2⟩ := info_parts pairsinfo
  have hrun := fun W => run_make (P := Tryz.prog) W 47 49 ii (.slice none 0 0) Tryz.underlying47 hii hiz0 .i64 .i64 1 1 (by decide) (by decide) (by rw [hiz2]; decide) (by decide)
  simp only [hiz1] at hrun
  have HRUN := Lib.hid hrun
  clear hrun hii hiz0 hiz1 hiz2
  have x1 : w3.cell? ⟨w.heap.size, 1, none⟩ = some (.int .u64 c.key) := A3.cell 1
  have x2 : w3.cell? ⟨w.heap.size, 2, none⟩ = some (.int .u64 c.val) := A3.cell 2
  have x3 : w3.cell? ⟨w.heap.size, 3, none⟩ = some (.int .i64 c.limit) := A3.cell 3
  have zz : w.heap.size + 1 < w3.heap.size := Z3.lt
  by_cases hkv : c.val < c.key
  · have HNW := Lib.hid (show Scn.start c s.c.buckets = ⟨c, 0, 0, 0, 0, [[]], true, 0, true, []⟩ by unfold Scn.start; rw [HC0.out]; simp [hkv])
    go_upto_region 7 with fail
    clear hkv x1 x2 x3
    generalize w3 = W3 at *
    have M1 := Lib.hid (show ∀ (w w' : World) (v : Value), (∃ g, v = .slice (some ⟨g, 0, none⟩) 1 1 ∧ W3.heap.size ≤ g ∧ At w g 49 #[.slice none 0 0]) → Below w.heap.size w w' → (∃ g, v = .slice (some ⟨g, 0, none⟩) 1 1 ∧ W3.heap.size ≤ g ∧ At w' g 49 #[.slice none 0 0]) from fun _ _ _ ⟨g, a, b, h⟩ hb => ⟨g, a, b, h.below' hb⟩)
    have M2 := Lib.hid (show ∀ (w w' : World) (v : Value), (∃ g, v = .agg (Scn.cells ⟨c, 0, 0, 0, 0, [[]], true, 0, true, []⟩ (.slice (some ⟨g, 0, none⟩) 1 1) (.slice none 0 0)) ∧ W3.heap.size ≤ g ∧ At w g 49 #[.slice none 0 0]) → Below w.heap.size w w' → (∃ g, v = .agg (Scn.cells ⟨c, 0, 0, 0, 0, [[]], true, 0, true, []⟩ (.slice (some ⟨g, 0, none⟩) 1 1) (.slice none 0 0)) ∧ W3.heap.size ≤ g ∧ At w' g 49 #[.slice none 0 0]) from fun _ _ _ ⟨g, a, b, h⟩ hb => ⟨g, a, b, h.below' hb⟩)
    refine wp_region_C (l := [_, _, _, _, _, _, _, _, _, _, _, _]) (LG 11 (FL (fun j v => match j with | 0 => v = .agg #[.int .i64 c.kind, .int .u64 c.key, .int .u64 c.val, .int .i64 c.limit] | 1 => v = .pointer (some ⟨k.bw, 0, none⟩) | 2 => v = .pointer (some ⟨k.bw, 0, none⟩) | 3 => v = .pointer (some ⟨k.bw, 0, none⟩) | 4 => v = .pointer (some ⟨k.bw, 1, none⟩) | 5 => v = .int .i64 1 | 7 => v = .bool true | 8 => v = .bool true | 9 => v = .agg #[.int .i64 0, .bool true, .int .u64 0, .slice none 0 0] | _ => True) 6 10 (fun w v => ∃ g, v = .slice (some ⟨g, 0, none⟩) 1 1 ∧ W3.heap.size ≤ g ∧ At w g 49 #[.slice none 0 0]) (fun w v => ∃ g, v = .agg (Scn.cells ⟨c, 0, 0, 0, 0, [[]], true, 0, true, []⟩ (.slice (some ⟨g, 0, none⟩) 1 1) (.slice none 0 0)) ∧ W3.heap.size ≤ g ∧ At w g 49 #[.slice none 0 0])) W3 (fun _ wq => ∃ g, At wq (w.heap.size + 1) 53 (Scn.cells ⟨c, 0, 0, 0, 0, [[]], true, 0, true, []⟩ (.slice (some ⟨g, 0, none⟩) 1 1) (.slice none 0 0)) ∧ W3.heap.size ≤ g ∧ At wq g 49 #[.slice none 0 0] ∧ Only (fun j => j = w.heap.size + 1) W3 wq)) (by kernel_rfl) (by kernel_rfl) (fun us => LG.start us) ⟨?_, ?_, ?_, ?_, ?_, ?_, ?_, ?_, ?_, ?_, ?_, ?_, trivial⟩ ?_
    · intro dn us w6 A hev hy hG hcl hdn hdep K hK
      have hb6 := hG.below (hG.not hdn (by decide))
      have e0 : A.eval (.tmp 5) = .pointer (some ⟨w.heap.size, 0, none⟩) := by rw [hev]; rfl
      rw [if_pos (by rfl)]
      refine op_ld 28 (.tmp 5) rfl (#[.int .i64 c.kind, .int .u64 c.key, .int .u64 c.val, .int .i64 c.limit]) e0 _ (A3.below' hb6) Tryz.underlying28 rfl (by kernel_rfl) rfl ?_
      exact hK _ _ (hG.plain hdn (by decide) (by decide) (by decide) rfl)
    · intro dn us w6 A hev hy hG hcl hdn hdep K hK
      have e0 : A.eval (.tmp 0) = .pointer (some ⟨k.bw, 0, none⟩) := by rw [hev]; rfl
      rw [if_pos (by rfl)]; unfold Oper.wp execOp; generalize A.eval = ev at e0 ⊢; go_simp; exact hK _ _ (hG.plain hdn (by decide) (by decide) (by decide) (by first | rfl | (simp; done) | (simp; omega) | (simp; assumption)))
    · intro dn us w6 A hev hy hG hcl hdn hdep K hK
      have d1 : dn 1 = true := allD_mem hdep (by decide)
      have e0 : A.eval (.tmp 43) = .pointer (some ⟨k.bw, 0, none⟩) := by rw [hev]; exact hG.val hdn (by decide) d1
      rw [if_pos (by rfl)]; unfold Oper.wp execOp; generalize A.eval = ev at e0 ⊢; go_simp; exact hK _ _ (hG.plain hdn (by decide) (by decide) (by decide) (by first | rfl | (simp; done) | (simp; omega) | (simp; assumption)))
    · intro dn us w6 A hev hy hG hcl hdn hdep K hK
      have d2 : dn 2 = true := allD_mem hdep (by decide)
      have e0 : A.eval (.tmp 44) = .pointer (some ⟨k.bw, 0, none⟩) := by rw [hev]; exact hG.val hdn (by decide) d2
      rw [if_pos (by rfl)]; unfold Oper.wp execOp; generalize A.eval = ev at e0 ⊢; go_simp; exact hK _ _ (hG.plain hdn (by decide) (by decide) (by decide) (by first | rfl | (simp; done) | (simp; omega) | (simp; assumption)))
    · intro dn us w6 A hev hy hG hcl hdn hdep K hK
      have d3 : dn 3 = true := allD_mem hdep (by decide)
      have e0 : A.eval (.tmp 45) = .pointer (some ⟨k.bw, 0, none⟩) := by rw [hev]; exact hG.val hdn (by decide) d3
      rw [if_pos (by rfl)]; unfold Oper.wp execOp; generalize A.eval = ev at e0 ⊢; go_simp; exact hK _ _ (hG.plain hdn (by decide) (by decide) (by decide) (by first | rfl | (simp; done) | (simp; omega) | (simp; assumption)))
    · intro dn us w6 A hev hy hG hcl hdn hdep K hK
      have d4 : dn 4 = true := allD_mem hdep (by decide)
      have e0 : A.eval (.tmp 46) = .pointer (some ⟨k.bw, 1, none⟩) := by rw [hev]; exact hG.val hdn (by decide) d4
      have hb6 := hG.below (hG.not hdn (by decide))
      have cc0 : w6.cell? ⟨k.bw, 1, none⟩ = some (.int .i64 1) := by rw [hb6.cell lw3]; exact g1
      rw [if_pos (by rfl)]; unfold Oper.wp execOp; generalize A.eval = ev at e0 ⊢; go_simp; exact hK _ _ (hG.plain hdn (by decide) (by decide) (by decide) (by first | rfl | (simp; done) | (simp; omega) | (simp; assumption)))
    · intro dn us w6 A hev hy hG hcl hdn hdep K hK
      have hb6 := hG.below (hG.not hdn (by decide))
      have d5 : dn 5 = true := allD_mem hdep (by decide)
      have e0 : A.eval (.tmp 47) = .int .i64 1 := by rw [hev]; exact hG.val hdn (by decide) d5
      rw [if_pos (by rfl)]; unfold Oper.wp execOp; generalize A.eval = ev at e0 ⊢; go_simp; rw [HRUN.out]
      go_simp
      exact hK _ _ (hG.sp1 hdn (by decide) (by decide) M1.out M2.out trivial ⟨_, rfl, hb6.size, cells_at (At.new _ _ _) (made_one _)⟩ ((Below.refl _ _).alloc (Nat.le_refl _) _))
    · intro dn us w6 A hev hy hG hcl hdn hdep K hK
      have e0 : A.eval (.tmp 9) = .bool true := by rw [hev]; rfl
      rw [if_pos (by rfl)]; unfold Oper.wp execOp; generalize A.eval = ev at e0 ⊢; go_simp; exact hK _ _ (hG.plain hdn (by decide) (by decide) (by decide) (by first | rfl | (simp; done) | (simp; omega) | (simp; assumption)))
    · intro dn us w6 A hev hy hG hcl hdn hdep K hK
      have e0 : A.eval (.tmp 9) = .bool true := by rw [hev]; rfl
      rw [if_pos (by rfl)]; unfold Oper.wp execOp; generalize A.eval = ev at e0 ⊢; go_simp; exact hK _ _ (hG.plain hdn (by decide) (by decide) (by decide) (by first | rfl | (simp; done) | (simp; omega) | (simp; assumption)))
    · intro dn us w6 A hev hy hG hcl hdn hdep K hK
      have d8 : dn 8 = true := allD_mem hdep (by decide)
      have e0 : A.eval (.tmp 50) = .bool true := by rw [hev]; exact hG.val hdn (by decide) d8
      rw [if_pos (by rfl)]; unfold Oper.wp execOp; generalize A.eval = ev at e0 ⊢; go_simp; exact hK _ _ (hG.plain hdn (by decide) (by decide) (by decide) (by first | rfl | (simp; done) | (simp; omega) | (simp; assumption)))
    · intro dn us w6 A hev hy hG hcl hdn hdep K hK
      have d0 : dn 0 = true := allD_mem hdep (by decide)
      have d6 : dn 6 = true := allD_mem hdep (by decide)
      have d7 : dn 7 = true := allD_mem hdep (by decide)
      have d9 : dn 9 = true := allD_mem hdep (by decide)
      obtain ⟨g, hq, hge, hA⟩ := (hG.pre (hG.not hdn (by decide)) 6 d6).2.1 rfl
      have e0 : A.eval (.tmp 42) = .agg #[.int .i64 c.kind, .int .u64 c.key, .int .u64 c.val, .int .i64 c.limit] := by rw [hev]; exact hG.val hdn (by decide) d0
      have e1 : A.eval (.tmp 48) = .slice (some ⟨g, 0, none⟩) 1 1 := by rw [hev]; exact hq
      have e2 : A.eval (.tmp 49) = .bool true := by rw [hev]; exact hG.val hdn (by decide) d7
      have e3 : A.eval (.tmp 51) = .agg #[.int .i64 0, .bool true, .int .u64 0, .slice none 0 0] := by rw [hev]; exact hG.val hdn (by decide) d9
      rw [if_pos (by rfl)]; unfold Oper.wp execOp; generalize A.eval = ev at e0 e1 e2 e3 ⊢; go_simp; exact hK _ _ (hG.sp2 hdn (by decide) (by decide) M1.out M2.out trivial ⟨g, rfl, hge, hA⟩ (Below.refl _ _))
    · intro dn us w6 A hev hy hG hcl hdn hdep K hK
      have d10 : dn 10 = true := allD_mem hdep (by decide)
      have hall : ∀ j, j < 11 → dn j = true := by
        have d0 : dn 0 = true := allD_mem (hcl 10 d10) (by decide)
        have d6 : dn 6 = true := allD_mem (hcl 10 d10) (by decide)
        have d7 : dn 7 = true := allD_mem (hcl 10 d10) (by decide)
        have d9 : dn 9 = true := allD_mem (hcl 10 d10) (by decide)
        have d5 : dn 5 = true := allD_mem (hcl 6 d6) (by decide)
        have d4 : dn 4 = true := allD_mem (hcl 5 d5) (by decide)
        have d3 : dn 3 = true := allD_mem (hcl 4 d4) (by decide)
        have d2 : dn 2 = true := allD_mem (hcl 3 d3) (by decide)
        have d1 : dn 1 = true := allD_mem (hcl 2 d2) (by decide)
        have d8 : dn 8 = true := allD_mem (hcl 9 d9) (by decide)
        intro j hj
        match j, hj with
        | 0, _ => exact d0
        | 1, _ => exact d1
        | 2, _ => exact d2
        | 3, _ => exact d3
        | 4, _ => exact d4
        | 5, _ => exact d5
        | 6, _ => exact d6
        | 7, _ => exact d7
        | 8, _ => exact d8
        | 9, _ => exact d9
        | 10, _ => exact d10
      obtain ⟨g, hq, hge, hA⟩ := (hG.pre hdn 10 d10).2.2 rfl
      have e0 : A.eval (.tmp 6) = .pointer (some ⟨w.heap.size + 1, 0, none⟩) := by rw [hev]; rfl
      have e1 : A.eval (.tmp 52) = .agg (Scn.cells ⟨c, 0, 0, 0, 0, [[]], true, 0, true, []⟩ (.slice (some ⟨g, 0, none⟩) 1 1) (.slice none 0 0)) := by rw [hev]; exact hq
      refine step_list (wpl_st rfl 53 (.tmp 6) (.tmp 52) rfl (Scn.cells ⟨c, 0, 0, 0, 0, [[]], true, 0, true, []⟩ (.slice (some ⟨g, 0, none⟩) 1 1) (.slice none 0 0)) e0 _ e1 (Z3.below' (hG.below hdn)) (by kernel_rfl) rfl rfl rfl fun w7 A7 O7 => ⟨rfl, ?_⟩)
      exact hK _ _ (LG.stored hall ⟨g, A7, hge, hA.only O7 (by show ¬ _ = _; have := Z3.lt; omega), (Only.ofBelow _ (hG.below hdn)).trans O7⟩)
    intro dn us w8 hG hall
    obtain ⟨g, A8, hge, hA, O8⟩ := hG.st (hall 11 (by decide))
    simp only [fillA, fillT, Nat.reduceAdd, List.setIfInBounds_toArray, List.set_cons_zero, List.set_cons_succ]
    clear hG hall M1 M2
    go_wp2_with fail
    refine bodyPost_ret (res_cell rfl _ _ _ _ _ rfl A8 Tryz.underlying53 rfl (by kernel_rfl)) rfl ?_
    rw [HNW.out]
    refine ⟨_, _, rfl, HH3.out.but OP.out O8, ⟨.inr ⟨g, 0, 1, rfl, by simp, Nat.le_refl 1, HN.out g (by omega), fun i l hl => by
      match i, hl with
      | 0, hl => cases hl; exact ⟨_, hA.cell 0, PairsIn.nil _ _⟩⟩, PairsIn.nil _ _⟩, ?_⟩
    exact (OA.trans (O8.mono fun _ _ e => .inr e)).mono fun z hz e => by
      rcases e with e | e
      · exact e
      · omega
  · by_cases hlm : c.limit < 1
    · have HNW := Lib.hid (show Scn.start c s.c.buckets = ⟨c, 0, 0, 0, 0, [[]], true, 0, true, []⟩ by unfold Scn.start; rw [HC0.out]; simp [hlm])
      go_upto_region 7 with fail
      clear hkv hlm x1 x2 x3
      generalize w3 = W3 at *
      have M1 := Lib.hid (show ∀ (w w' : World) (v : Value), (∃ g, v = .slice (some ⟨g, 0, none⟩) 1 1 ∧ W3.heap.size ≤ g ∧ At w g 49 #[.slice none 0 0]) → Below w.heap.size w w' → (∃ g, v = .slice (some ⟨g, 0, none⟩) 1 1 ∧ W3.heap.size ≤ g ∧ At w' g 49 #[.slice none 0 0]) from fun _ _ _ ⟨g, a, b, h⟩ hb => ⟨g, a, b, h.below' hb⟩)
      have M2 := Lib.hid (show ∀ (w w' : World) (v : Value), (∃ g, v = .agg (Scn.cells ⟨c, 0, 0, 0, 0, [[]], true, 0, true, []⟩ (.slice (some ⟨g, 0, none⟩) 1 1) (.slice none 0 0)) ∧ W3.heap.size ≤ g ∧ At w g 49 #[.slice none 0 0]) → Below w.heap.size w w' → (∃ g, v = .agg (Scn.cells ⟨c, 0, 0, 0, 0, [[]], true, 0, true, []⟩ (.slice (some ⟨g, 0, none⟩) 1 1) (.slice none 0 0)) ∧ W3.heap.size ≤ g ∧ At w' g 49 #[.slice none 0 0]) from fun _ _ _ ⟨g, a, b, h⟩ hb => ⟨g, a, b, h.below' hb⟩)
      refine wp_region_C (l := [_, _, _, _, _, _, _, _, _, _, _, _]) (LG 11 (FL (fun j v => match j with | 0 => v = .agg #[.int .i64 c.kind, .int .u64 c.key, .int .u64 c.val, .int .i64 c.limit] | 1 => v = .pointer (some ⟨k.bw, 0, none⟩) | 2 => v = .pointer (some ⟨k.bw, 0, none⟩) | 3 => v = .pointer (some ⟨k.bw, 0, none⟩) | 4 => v = .pointer (some ⟨k.bw, 1, none⟩) | 5 => v = .int .i64 1 | 7 => v = .bool true | 8 => v = .bool true | 9 => v = .agg #[.int .i64 0, .bool true, .int .u64 0, .slice none 0 0] | _ => True) 6 10 (fun w v => ∃ g, v = .slice (some ⟨g, 0, none⟩) 1 1 ∧ W3.heap.size ≤ g ∧ At w g 49 #[.slice none 0 0]) (fun w v => ∃ g, v = .agg (Scn.cells ⟨c, 0, 0, 0, 0, [[]], true, 0, true, []⟩ (.slice (some ⟨g, 0, none⟩) 1 1) (.slice none 0 0)) ∧ W3.heap.size ≤ g ∧ At w g 49 #[.slice none 0 0])) W3 (fun _ wq => ∃ g, At wq (w.heap.size + 1) 53 (Scn.cells ⟨c, 0, 0, 0, 0, [[]], true, 0, true, []⟩ (.slice (some ⟨g, 0, none⟩) 1 1) (.slice none 0 0)) ∧ W3.heap.size ≤ g ∧ At wq g 49 #[.slice none 0 0] ∧ Only (fun j => j = w.heap.size + 1) W3 wq)) (by kernel_rfl) (by kernel_rfl) (fun us => LG.start us) ⟨?_, ?_, ?_, ?_, ?_, ?_, ?_, ?_, ?_, ?_, ?_, ?_, trivial⟩ ?_
      · intro dn us w6 A hev hy hG hcl hdn hdep K hK
        have hb6 := hG.below (hG.not hdn (by decide))
        have e0 : A.eval (.tmp 5) = .pointer (some ⟨w.heap.size, 0, none⟩) := by rw [hev]; rfl
        rw [if_pos (by rfl)]
        refine op_ld 28 (.tmp 5) rfl (#[.int .i64 c.kind, .int .u64 c.key, .int .u64 c.val, .int .i64 c.limit]) e0 _ (A3.below' hb6) Tryz.underlying28 rfl (by kernel_rfl) rfl ?_
        exact hK _ _ (hG.plain hdn (by decide) (by decide) (by decide) rfl)
      · intro dn us w6 A hev hy hG hcl hdn hdep K hK
        have e0 : A.eval (.tmp 0) = .pointer (some ⟨k.bw, 0, none⟩) := by rw [hev]; rfl
        rw [if_pos (by rfl)]; unfold Oper.wp execOp; generalize A.eval = ev at e0 ⊢; go_simp; exact hK _ _ (hG.plain hdn (by decide) (by decide) (by decide) (by first | rfl | (simp; done) | (simp; omega) | (simp; assumption)))
      · intro dn us w6 A hev hy hG hcl hdn hdep K hK
        have d1 : dn 1 = true := allD_mem hdep (by decide)
        have e0 : A.eval (.tmp 43) = .pointer (some ⟨k.bw, 0, none⟩) := by rw [hev]; exact hG.val hdn (by decide) d1
        rw [if_pos (by rfl)]; unfold Oper.wp execOp; generalize A.eval = ev at e0 ⊢; go_simp; exact hK _ _ (hG.plain hdn (by decide) (by decide) (by decide) (by first | rfl | (simp; done) | (simp; omega) | (simp; assumption)))
      · intro dn us w6 A hev hy hG hcl hdn hdep K hK
        have d2 : dn 2 = true := allD_mem hdep (by decide)
        have e0 : A.eval (.tmp 44) = .pointer (some ⟨k.bw, 0, none⟩) := by rw [hev]; exact hG.val hdn (by decide) d2
        rw [if_pos (by rfl)]; unfold Oper.wp execOp; generalize A.eval = ev at e0 ⊢; go_simp; exact hK _ _ (hG.plain hdn (by decide) (by decide) (by decide) (by first | rfl | (simp; done) | (simp; omega) | (simp; assumption)))
      · intro dn us w6 A hev hy hG hcl hdn hdep K hK
        have d3 : dn 3 = true := allD_mem hdep (by decide)
        have e0 : A.eval (.tmp 45) = .pointer (some ⟨k.bw, 0, none⟩) := by rw [hev]; exact hG.val hdn (by decide) d3
        rw [if_pos (by rfl)]; unfold Oper.wp execOp; generalize A.eval = ev at e0 ⊢; go_simp; exact hK _ _ (hG.plain hdn (by decide) (by decide) (by decide) (by first | rfl | (simp; done) | (simp; omega) | (simp; assumption)))
      · intro dn us w6 A hev hy hG hcl hdn hdep K hK
        have d4 : dn 4 = true := allD_mem hdep (by decide)
        have e0 : A.eval (.tmp 46) = .pointer (some ⟨k.bw, 1, none⟩) := by rw [hev]; exact hG.val hdn (by decide) d4
        have hb6 := hG.below (hG.not hdn (by decide))
        have cc0 : w6.cell? ⟨k.bw, 1, none⟩ = some (.int .i64 1) := by rw [hb6.cell lw3]; exact g1
        rw [if_pos (by rfl)]; unfold Oper.wp execOp; generalize A.eval = ev at e0 ⊢; go_simp; exact hK _ _ (hG.plain hdn (by decide) (by decide) (by decide) (by first | rfl | (simp; done) | (simp; omega) | (simp; assumption)))
      · intro dn us w6 A hev hy hG hcl hdn hdep K hK
        have hb6 := hG.below (hG.not hdn (by decide))
        have d5 : dn 5 = true := allD_mem hdep (by decide)
        have e0 : A.eval (.tmp 47) = .int .i64 1 := by rw [hev]; exact hG.val hdn (by decide) d5
        rw [if_pos (by rfl)]; unfold Oper.wp execOp; generalize A.eval = ev at e0 ⊢; go_simp; rw [HRUN.out]
        go_simp
        exact hK _ _ (hG.sp1 hdn (by decide) (by decide) M1.out M2.out trivial ⟨_, rfl, hb6.size, cells_at (At.new _ _ _) (made_one _)⟩ ((Below.refl _ _).alloc (Nat.le_refl _) _))
      · intro dn us w6 A hev hy hG hcl hdn hdep K hK
        have e0 : A.eval (.tmp 9) = .bool true := by rw [hev]; rfl
        rw [if_pos (by rfl)]; unfold Oper.wp execOp; generalize A.eval = ev at e0 ⊢; go_simp; exact hK _ _ (hG.plain hdn (by decide) (by decide) (by decide) (by first | rfl | (simp; done) | (simp; omega) | (simp; assumption)))
      · intro dn us w6 A hev hy hG hcl hdn hdep K hK
        have e0 : A.eval (.tmp 9) = .bool true := by rw [hev]; rfl
        rw [if_pos (by rfl)]; unfold Oper.wp execOp; generalize A.eval = ev at e0 ⊢; go_simp; exact hK _ _ (hG.plain hdn (by decide) (by decide) (by decide) (by first | rfl | (simp; done) | (simp; omega) | (simp; assumption)))
      · intro dn us w6 A hev hy hG hcl hdn hdep K hK
        have d8 : dn 8 = true := allD_mem hdep (by decide)
        have e0 : A.eval (.tmp 50) = .bool true := by rw [hev]; exact hG.val hdn (by decide) d8
        rw [if_pos (by rfl)]; unfold Oper.wp execOp; generalize A.eval = ev at e0 ⊢; go_simp; exact hK _ _ (hG.plain hdn (by decide) (by decide) (by decide) (by first | rfl | (simp; done) | (simp; omega) | (simp; assumption)))
      · intro dn us w6 A hev hy hG hcl hdn hdep K hK
        have d0 : dn 0 = true := allD_mem hdep (by decide)
        have d6 : dn 6 = true := allD_mem hdep (by decide)
        have d7 : dn 7 = true := allD_mem hdep (by decide)
        have d9 : dn 9 = true := allD_mem hdep (by decide)
        obtain ⟨g, hq, hge, hA⟩ := (hG.pre (hG.not hdn (by decide)) 6 d6).2.1 rfl
        have e0 : A.eval (.tmp 42) = .agg #[.int .i64 c.kind, .int .u64 c.key, .int .u64 c.val, .int .i64 c.limit] := by rw [hev]; exact hG.val hdn (by decide) d0
        have e1 : A.eval (.tmp 48) = .slice (some ⟨g, 0, none⟩) 1 1 := by rw [hev]; exact hq
        have e2 : A.eval (.tmp 49) = .bool true := by rw [hev]; exact hG.val hdn (by decide) d7
        have e3 : A.eval (.tmp 51) = .agg #[.int .i64 0, .bool true, .int .u64 0, .slice none 0 0] := by rw [hev]; exact hG.val hdn (by decide) d9
        rw [if_pos (by rfl)]; unfold Oper.wp execOp; generalize A.eval = ev at e0 e1 e2 e3 ⊢; go_simp; exact hK _ _ (hG.sp2 hdn (by decide) (by decide) M1.out M2.out trivial ⟨g, rfl, hge, hA⟩ (Below.refl _ _))
      · intro dn us w6 A hev hy hG hcl hdn hdep K hK
        have d10 : dn 10 = true := allD_mem hdep (by decide)
        have hall : ∀ j, j < 11 → dn j = true := by
          have d0 : dn 0 = true := allD_mem (hcl 10 d10) (by decide)
          have d6 : dn 6 = true := allD_mem (hcl 10 d10) (by decide)
          have d7 : dn 7 = true := allD_mem (hcl 10 d10) (by decide)
          have d9 : dn 9 = true := allD_mem (hcl 10 d10) (by decide)
          have d5 : dn 5 = true := allD_mem (hcl 6 d6) (by decide)
          have d4 : dn 4 = true := allD_mem (hcl 5 d5) (by decide)
          have d3 : dn 3 = true := allD_mem (hcl 4 d4) (by decide)
          have d2 : dn 2 = true := allD_mem (hcl 3 d3) (by decide)
          have d1 : dn 1 = true := allD_mem (hcl 2 d2) (by decide)
          have d8 : dn 8 = true := allD_mem (hcl 9 d9) (by decide)
          intro j hj
          match j, hj with
          | 0, _ => exact d0
          | 1, _ => exact d1
          | 2, _ => exact d2
          | 3, _ => exact d3
          | 4, _ => exact d4
          | 5, _ => exact d5
          | 6, _ => exact d6
          | 7, _ => exact d7
          | 8, _ => exact d8
          | 9, _ => exact d9
          | 10, _ => exact d10
        obtain ⟨g, hq, hge, hA⟩ := (hG.pre hdn 10 d10).2.2 rfl
        have e0 : A.eval (.tmp 6) = .pointer (some ⟨w.heap.size + 1, 0, none⟩) := by rw [hev]; rfl
        have e1 : A.eval (.tmp 52) = .agg (Scn.cells ⟨c, 0, 0, 0, 0, [[]], true, 0, true, []⟩ (.slice (some ⟨g, 0, none⟩) 1 1) (.slice none 0 0)) := by rw [hev]; exact hq
        refine step_list (wpl_st rfl 53 (.tmp 6) (.tmp 52) rfl (Scn.cells ⟨c, 0, 0, 0, 0, [[]], true, 0, true, []⟩ (.slice (some ⟨g, 0, none⟩) 1 1) (.slice none 0 0)) e0 _ e1 (Z3.below' (hG.below hdn)) (by kernel_rfl) rfl rfl rfl fun w7 A7 O7 => ⟨rfl, ?_⟩)
        exact hK _ _ (LG.stored hall ⟨g, A7, hge, hA.only O7 (by show ¬ _ = _; have := Z3.lt; omega), (Only.ofBelow _ (hG.below hdn)).trans O7⟩)
      intro dn us w8 hG hall
      obtain ⟨g, A8, hge, hA, O8⟩ := hG.st (hall 11 (by decide))
      simp only [fillA, fillT, Nat.reduceAdd, List.setIfInBounds_toArray, List.set_cons_zero, List.set_cons_succ]
      clear hG hall M1 M2
      go_wp2_with fail
      refine bodyPost_ret (res_cell rfl _ _ _ _ _ rfl A8 Tryz.underlying53 rfl (by kernel_rfl)) rfl ?_
      rw [HNW.out]
      refine ⟨_, _, rfl, HH3.out.but OP.out O8, ⟨.inr ⟨g, 0, 1, rfl, by simp, Nat.le_refl 1, HN.out g (by omega), fun i l hl => by
        match i, hl with
        | 0, hl => cases hl; exact ⟨_, hA.cell 0, PairsIn.nil _ _⟩⟩, PairsIn.nil _ _⟩, ?_⟩
      exact (OA.trans (O8.mono fun _ _ e => .inr e)).mono fun z hz e => by
        rcases e with e | e
        · exact e
        · omega
    · have HNW := Lib.hid (show Scn.start c s.c.buckets = ⟨c, 0, 0, 0, 0, [[]], false, 0, false, []⟩ by unfold Scn.start; rw [HC0.out]; simp [hkv, hlm])
      go_upto_region 7 with fail
      clear hkv hlm x1 x2 x3
      generalize w3 = W3 at *
      have M1 := Lib.hid (show ∀ (w w' : World) (v : Value), (∃ g, v = .slice (some ⟨g, 0, none⟩) 1 1 ∧ W3.heap.size ≤ g ∧ At w g 49 #[.slice none 0 0]) → Below w.heap.size w w' → (∃ g, v = .slice (some ⟨g, 0, none⟩) 1 1 ∧ W3.heap.size ≤ g ∧ At w' g 49 #[.slice none 0 0]) from fun _ _ _ ⟨g, a, b, h⟩ hb => ⟨g, a, b, h.below' hb⟩)
      have M2 := Lib.hid (show ∀ (w w' : World) (v : Value), (∃ g, v = .agg (Scn.cells ⟨c, 0, 0, 0, 0, [[]], false, 0, false, []⟩ (.slice (some ⟨g, 0, none⟩) 1 1) (.slice none 0 0)) ∧ W3.heap.size ≤ g ∧ At w g 49 #[.slice none 0 0]) → Below w.heap.size w w' → (∃ g, v = .agg (Scn.cells ⟨c, 0, 0, 0, 0, [[]], false, 0, false, []⟩ (.slice (some ⟨g, 0, none⟩) 1 1) (.slice none 0 0)) ∧ W3.heap.size ≤ g ∧ At w' g 49 #[.slice none 0 0]) from fun _ _ _ ⟨g, a, b, h⟩ hb => ⟨g, a, b, h.below' hb⟩)
      refine wp_region_C (l := [_, _, _, _, _, _, _, _, _, _, _, _]) (LG 11 (FL (fun j v => match j with | 0 => v = .agg #[.int .i64 c.kind, .int .u64 c.key, .int .u64 c.val, .int .i64 c.limit] | 1 => v = .pointer (some ⟨k.bw, 0, none⟩) | 2 => v = .pointer (some ⟨k.bw, 0, none⟩) | 3 => v = .pointer (some ⟨k.bw, 0, none⟩) | 4 => v = .pointer (some ⟨k.bw, 1, none⟩) | 5 => v = .int .i64 1 | 7 => v = .bool false | 8 => v = .bool false | 9 => v = .agg #[.int .i64 0, .bool false, .int .u64 0, .slice none 0 0] | _ => True) 6 10 (fun w v => ∃ g, v = .slice (some ⟨g, 0, none⟩) 1 1 ∧ W3.heap.size ≤ g ∧ At w g 49 #[.slice none 0 0]) (fun w v => ∃ g, v = .agg (Scn.cells ⟨c, 0, 0, 0, 0, [[]], false, 0, false, []⟩ (.slice (some ⟨g, 0, none⟩) 1 1) (.slice none 0 0)) ∧ W3.heap.size ≤ g ∧ At w g 49 #[.slice none 0 0])) W3 (fun _ wq => ∃ g, At wq (w.heap.size + 1) 53 (Scn.cells ⟨c, 0, 0, 0, 0, [[]], false, 0, false, []⟩ (.slice (some ⟨g, 0, none⟩) 1 1) (.slice none 0 0)) ∧ W3.heap.size ≤ g ∧ At wq g 49 #[.slice none 0 0] ∧ Only (fun j => j = w.heap.size + 1) W3 wq)) (by kernel_rfl) (by kernel_rfl) (fun us => LG.start us) ⟨?_, ?_, ?_, ?_, ?_, ?_, ?_, ?_, ?_, ?_, ?_, ?_, trivial⟩ ?_
      · intro dn us w6 A hev hy hG hcl hdn hdep K hK
        have hb6 := hG.below (hG.not hdn (by decide))
        have e0 : A.eval (.tmp 5) = .pointer (some ⟨w.heap.size, 0, none⟩) := by rw [hev]; rfl
        rw [if_pos (by rfl)]
        refine op_ld 28 (.tmp 5) rfl (#[.int .i64 c.kind, .int .u64 c.key, .int .u64 c.val, .int .i64 c.limit]) e0 _ (A3.below' hb6) Tryz.underlying28 rfl (by kernel_rfl) rfl ?_
        exact hK _ _ (hG.plain hdn (by decide) (by decide) (by decide) rfl)
      · intro dn us w6 A hev hy hG hcl hdn hdep K hK
        have e0 : A.eval (.tmp 0) = .pointer (some ⟨k.bw, 0, none⟩) := by rw [hev]; rfl
        rw [if_pos (by rfl)]; unfold Oper.wp execOp; generalize A.eval = ev at e0 ⊢; go_simp; exact hK _ _ (hG.plain hdn (by decide) (by decide) (by decide) (by first | rfl | (simp; done) | (simp; omega) | (simp; assumption)))
      · intro dn us w6 A hev hy hG hcl hdn hdep K hK
        have d1 : dn 1 = true := allD_mem hdep (by decide)
        have e0 : A.eval (.tmp 43) = .pointer (some ⟨k.bw, 0, none⟩) := by rw [hev]; exact hG.val hdn (by decide) d1
        rw [if_pos (by rfl)]; unfold Oper.wp execOp; generalize A.eval = ev at e0 ⊢; go_simp; exact hK _ _ (hG.plain hdn (by decide) (by decide) (by decide) (by first | rfl | (simp; done) | (simp; omega) | (simp; assumption)))
      · intro dn us w6 A hev hy hG hcl hdn hdep K hK
        have d2 : dn 2 = true := allD_mem hdep (by decide)
        have e0 : A.eval (.tmp 44) = .pointer (some ⟨k.bw, 0, none⟩) := by rw [hev]; exact hG.val hdn (by decide) d2
        rw [if_pos (by rfl)]; unfold Oper.wp execOp; generalize A.eval = ev at e0 ⊢; go_simp; exact hK _ _ (hG.plain hdn (by decide) (by decide) (by decide) (by first | rfl | (simp; done) | (simp; omega) | (simp; assumption)))
      · intro dn us w6 A hev hy hG hcl hdn hdep K hK
        have d3 : dn 3 = true := allD_mem hdep (by decide)
        have e0 : A.eval (.tmp 45) = .pointer (some ⟨k.bw, 0, none⟩) := by rw [hev]; exact hG.val hdn (by decide) d3
        rw [if_pos (by rfl)]; unfold Oper.wp execOp; generalize A.eval = ev at e0 ⊢; go_simp; exact hK _ _ (hG.plain hdn (by decide) (by decide) (by decide) (by first | rfl | (simp; done) | (simp; omega) | (simp; assumption)))
      · intro dn us w6 A hev hy hG hcl hdn hdep K hK
        have d4 : dn 4 = true := allD_mem hdep (by decide)
        have e0 : A.eval (.tmp 46) = .pointer (some ⟨k.bw, 1, none⟩) := by rw [hev]; exact hG.val hdn (by decide) d4
        have hb6 := hG.below (hG.not hdn (by decide))
        have cc0 : w6.cell? ⟨k.bw, 1, none⟩ = some (.int .i64 1) := by rw [hb6.cell lw3]; exact g1
        rw [if_pos (by rfl)]; unfold Oper.wp execOp; generalize A.eval = ev at e0 ⊢; go_simp; exact hK _ _ (hG.plain hdn (by decide) (by decide) (by decide) (by first | rfl | (simp; done) | (simp; omega) | (simp; assumption)))
      · intro dn us w6 A hev hy hG hcl hdn hdep K hK
        have hb6 := hG.below (hG.not hdn (by decide))
        have d5 : dn 5 = true := allD_mem hdep (by decide)
        have e0 : A.eval (.tmp 47) = .int .i64 1 := by rw [hev]; exact hG.val hdn (by decide) d5
        rw [if_pos (by rfl)]; unfold Oper.wp execOp; generalize A.eval = ev at e0 ⊢; go_simp; rw [HRUN.out]
        go_simp
        exact hK _ _ (hG.sp1 hdn (by decide) (by decide) M1.out M2.out trivial ⟨_, rfl, hb6.size, cells_at (At.new _ _ _) (made_one _)⟩ ((Below.refl _ _).alloc (Nat.le_refl _) _))
      · intro dn us w6 A hev hy hG hcl hdn hdep K hK
        have e0 : A.eval (.tmp 9) = .bool false := by rw [hev]; rfl
        rw [if_pos (by rfl)]; unfold Oper.wp execOp; generalize A.eval = ev at e0 ⊢; go_simp; exact hK _ _ (hG.plain hdn (by decide) (by decide) (by decide) (by first | rfl | (simp; done) | (simp; omega) | (simp; assumption)))
      · intro dn us w6 A hev hy hG hcl hdn hdep K hK
        have e0 : A.eval (.tmp 9) = .bool false := by rw [hev]; rfl
        rw [if_pos (by rfl)]; unfold Oper.wp execOp; generalize A.eval = ev at e0 ⊢; go_simp; exact hK _ _ (hG.plain hdn (by decide) (by decide) (by decide) (by first | rfl | (simp; done) | (simp; omega) | (simp; assumption)))
      · intro dn us w6 A hev hy hG hcl hdn hdep K hK
        have d8 : dn 8 = true := allD_mem hdep (by decide)
        have e0 : A.eval (.tmp 50) = .bool false := by rw [hev]; exact hG.val hdn (by decide) d8
        rw [if_pos (by rfl)]; unfold Oper.wp execOp; generalize A.eval = ev at e0 ⊢; go_simp; exact hK _ _ (hG.plain hdn (by decide) (by decide) (by decide) (by first | rfl | (simp; done) | (simp; omega) | (simp; assumption)))
      · intro dn us w6 A hev hy hG hcl hdn hdep K hK
        have d0 : dn 0 = true := allD_mem hdep (by decide)
        have d6 : dn 6 = true := allD_mem hdep (by decide)
        have d7 : dn 7 = true := allD_mem hdep (by decide)
        have d9 : dn 9 = true := allD_mem hdep (by decide)
        obtain ⟨g, hq, hge, hA⟩ := (hG.pre (hG.not hdn (by decide)) 6 d6).2.1 rfl
        have e0 : A.eval (.tmp 42) = .agg #[.int .i64 c.kind, .int .u64 c.key, .int .u64 c.val, .int .i64 c.limit] := by rw [hev]; exact hG.val hdn (by decide) d0
        have e1 : A.eval (.tmp 48) = .slice (some ⟨g, 0, none⟩) 1 1 := by rw [hev]; exact hq
        have e2 : A.eval (.tmp 49) = .bool false := by rw [hev]; exact hG.val hdn (by decide) d7
        have e3 : A.eval (.tmp 51) = .agg #[.int .i64 0, .bool false, .int .u64 0, .slice none 0 0] := by rw [hev]; exact hG.val hdn (by decide) d9
        rw [if_pos (by rfl)]; unfold Oper.wp execOp; generalize A.eval = ev at e0 e1 e2 e3 ⊢; go_simp; exact hK _ _ (hG.sp2 hdn (by decide) (by decide) M1.out M2.out trivial ⟨g, rfl, hge, hA⟩ (Below.refl _ _))
      · intro dn us w6 A hev hy hG hcl hdn hdep K hK
        have d10 : dn 10 = true := allD_mem hdep (by decide)
        have hall : ∀ j, j < 11 → dn j = true := by
          have d0 : dn 0 = true := allD_mem (hcl 10 d10) (by decide)
          have d6 : dn 6 = true := allD_mem (hcl 10 d10) (by decide)
          have d7 : dn 7 = true := allD_mem (hcl 10 d10) (by decide)
          have d9 : dn 9 = true := allD_mem (hcl 10 d10) (by decide)
          have d5 : dn 5 = true := allD_mem (hcl 6 d6) (by decide)
          have d4 : dn 4 = true := allD_mem (hcl 5 d5) (by decide)
          have d3 : dn 3 = true := allD_mem (hcl 4 d4) (by decide)
          have d2 : dn 2 = true := allD_mem (hcl 3 d3) (by decide)
          have d1 : dn 1 = true := allD_mem (hcl 2 d2) (by decide)
          have d8 : dn 8 = true := allD_mem (hcl 9 d9) (by decide)
          intro j hj
          match j, hj with
          | 0, _ => exact d0
          | 1, _ => exact d1
          | 2, _ => exact d2
          | 3, _ => exact d3
          | 4, _ => exact d4
          | 5, _ => exact d5
          | 6, _ => exact d6
          | 7, _ => exact d7
          | 8, _ => exact d8
          | 9, _ => exact d9
          | 10, _ => exact d10
        obtain ⟨g, hq, hge, hA⟩ := (hG.pre hdn 10 d10).2.2 rfl
        have e0 : A.eval (.tmp 6) = .pointer (some ⟨w.heap.size + 1, 0, none⟩) := by rw [hev]; rfl
        have e1 : A.eval (.tmp 52) = .agg (Scn.cells ⟨c, 0, 0, 0, 0, [[]], false, 0, false, []⟩ (.slice (some ⟨g, 0, none⟩) 1 1) (.slice none 0 0)) := by rw [hev]; exact hq
        refine step_list (wpl_st rfl 53 (.tmp 6) (.tmp 52) rfl (Scn.cells ⟨c, 0, 0, 0, 0, [[]], false, 0, false, []⟩ (.slice (some ⟨g, 0, none⟩) 1 1) (.slice none 0 0)) e0 _ e1 (Z3.below' (hG.below hdn)) (by kernel_rfl) rfl rfl rfl fun w7 A7 O7 => ⟨rfl, ?_⟩)
        exact hK _ _ (LG.stored hall ⟨g, A7, hge, hA.only O7 (by show ¬ _ = _; have := Z3.lt; omega), (Only.ofBelow _ (hG.below hdn)).trans O7⟩)
      intro dn us w8 hG hall
      obtain ⟨g, A8, hge, hA, O8⟩ := hG.st (hall 11 (by decide))
      simp only [fillA, fillT, Nat.reduceAdd, List.setIfInBounds_toArray, List.set_cons_zero, List.set_cons_succ]
      clear hG hall M1 M2
      go_wp2_with fail
      refine bodyPost_ret (res_cell rfl _ _ _ _ _ rfl A8 Tryz.underlying53 rfl (by kernel_rfl)) rfl ?_
      rw [HNW.out]
      refine ⟨_, _, rfl, HH3.out.but OP.out O8, ⟨.inr ⟨g, 0, 1, rfl, by simp, Nat.le_refl 1, HN.out g (by omega), fun i l hl => by
        match i, hl with
        | 0, hl => cases hl; exact ⟨_, hA.cell 0, PairsIn.nil _ _⟩⟩, PairsIn.nil _ _⟩, ?_⟩
      exact (OA.trans (O8.mono fun _ _ e => .inr e)).mono fun z hz e => by
        rcases e with e | e
        · exact e
        · omega
theorem snew_any {k : Blks} {s : St} {N : Nat → Prop} (thread : Int) (c : GCall) (w : World) (h : Holds k s w) (hf : c.fits) (hN : ∀ z, w.heap.size ≤ z → N z) (hc : s.c.buckets = 1) :
    Calls Tryz.prog 17 #[.pointer (some ⟨k.bw, 0, none⟩), .int .i64 thread, .agg #[.int .i64 c.kind, .int .u64 c.key, .int .u64 c.val, .int .i64 c.limit]] w fun e w' => SOut k N (s.scnNew thread c) e w w' := by
  unfold St.scnNew
  by_cases hk : c.kind = 4
  · rw [if_pos hk]
    by_cases he : (s.begin thread c).2.2 = 0
    · rw [if_pos he]; exact snew_ok thread c w h hf hN hk he hc
    · rw [if_neg he]; exact snew_bad thread c w h hf hN hk he
  · rw [if_neg hk]; exact snew_kind thread c w h hf hN hk
end Go.Proofs.YtccmjljlfgbicaaGreat

/- Contract of finish (chapter 18): a scan, done to its end. -/
namespace Go.Proofs.YtccmjljlfgbicaaGreat
open Go.ChangeShapes Go.WideShapes Go.ChangeAt Go.RowKit

structure FAt (k : Blks) (N : Nat → Prop) (g : Nat) (w : World) (s : St) (y : Scn) (a1 : Option Addr) (n1 c1 : Nat) (a2 : Option Addr) (n2 c2 : Nat) (wr : World) : Prop where
  holds : Holds k s wr
  at_ : At wr g 53 (y.cells (.slice a1 n1 c1) (.slice a2 n2 c2))
  zero : At wr (g + 1) 53 zeroS
  in_ : ScnIn wr (fun z => N z ∧ z ≠ g ∧ z ≠ g + 1) y (.slice a1 n1 c1) (.slice a2 n2 c2)
  only : Only (Own k) w wr

set_option maxRecDepth 100000 in
set_option maxHeartbeats 8000000 in
theorem finish_any {k : Blks} {s : St} {N : Nat → Prop} (x : Scn) {lv pv : Value} {m : Nat} (w : World) (h : Holds k s w) (hI : ScnIn w N x lv pv) (hg : ScnGood x m) (hm : m + 300 ≤ 99999) (hc : s.c.buckets = 1) (hN : ∀ z, w.heap.size ≤ z → N z) (hNo : ∀ z, N z → ¬ Own k z) :
    Calls Tryz.prog 52 #[.pointer (some ⟨k.bw, 0, none⟩), x.val lv pv] w fun e w' => SOut k N (scnIter 300 (s, x)) e w w' := by
  obtain ⟨a1, n1, c1, rfl⟩ := hI.lists.formN
  obtain ⟨a2, c2, rfl⟩ := hI.pairs.form
  generalize hn2 : x.pairs.length = n2 at *
  clear hn2
  have HN := Lib.hid hN
  have HNO := Lib.hid hNo
  have HG := Lib.hid hg
  have HC := Lib.hid hc
  have HM := Lib.hid hm
  have HH := Lib.hid h
  have OP := Lib.hid (h.out (Nat.le_succ w.heap.size))
  have OO := Lib.hid (h.out (Nat.le_refl w.heap.size))
  have A1 := (At.new w 53 (x.cells (.slice a1 n1 c1) (.slice a2 n2 c2))).alloc (.cells zeroS 53)
  have A2 := At.new1 w (.cells (x.cells (.slice a1 n1 c1) (.slice a2 n2 c2)) 53) 53 zeroS
  have D0 := below_twice w (.cells (x.cells (.slice a1 n1 c1) (.slice a2 n2 c2)) 53) (.cells zeroS 53)
  go_enter Tryz.func52, Tryz.ntmps52
  go_upto_region 1 with fail
  generalize (w.alloc (.cells (x.cells (.slice a1 n1 c1) (.slice a2 n2 c2)) 53)).alloc (.cells zeroS 53) = w1 at *
  have z1 := A2.lt
  have hst : FAt k N w.heap.size w s x a1 n1 c1 a2 n2 c2 w1 := ⟨HH.out.below D0, A1, A2, hI.go (fun z hz hl => ⟨hz, by omega, by omega⟩) (fun z _ hl => D0.block z hl), .ofBelow _ D0⟩
  clear A1 A2 D0 h hI hN hNo hg hc hm
  go_wp2_with fail
  go_loopg [5] 300 (fun gg v5 wr => ∃ i : Nat, v5 = .int .i64 i ∧ i + gg = 300 ∧ ∃ s' y b1 m1 d1 b2 m2 d2, scnIter i (s, x) = (s', y) ∧ ScnGood y (m + i) ∧ FAt k N w.heap.size w s' y b1 m1 d1 b2 m2 d2 wr)
  case atStart => exact ⟨0, rfl, by omega, s, x, _, _, _, _, _, _, rfl, HG.out, hst⟩
  case round =>
    obtain ⟨i, rfl, hi, s', y, b1, m1, d1, b2, m2, d2, hit, hgd, hF⟩ := hrel
    have HIT := Lib.hid hit
    have HGD := Lib.hid hgd
    have HF := Lib.hid hF
    clear hst hit hgd
    have x9 : wr.cell? ⟨w.heap.size, 9, none⟩ = some (.bool y.done) := hF.at_.cell 9
    by_cases hlt : i < 300
    · cases hd : y.done with
      | true =>
        rw [hd] at x9
        have hres := scnIter_done HIT.out hd (300 - i)
        rw [show i + (300 - i) = 300 by omega] at hres
        have HR := Lib.hid hres
        clear hres hd hF
        go_wp2_with (first
          | (refine wpl_st rfl 53 _ _ rfl (y.cells (.slice b1 m1 d1) (.slice b2 m2 d2)) rfl _ rfl HF.out.zero (by kernel_rfl) rfl rfl rfl ?_; intro w4 A4 O4)
          | (refine wpl_ld rfl 53 _ rfl (y.cells (.slice b1 m1 d1) (.slice b2 m2 d2)) rfl _ HF.out.at_ Tryz.underlying53 rfl (by kernel_rfl) rfl ?_))
        refine bodyPost_ret (res_cell rfl _ _ _ _ _ rfl A4 Tryz.underlying53 rfl (by kernel_rfl)) rfl ?_
        rw [HR.out]
        exact ⟨_, _, rfl, HF.out.holds.but OP.out O4, (HF.out.in_.go (M := N) (fun z hz _ => hz.1) (fun z hz hl => O4.block z hl (fun e => hz.2.2 e))), HF.out.only.step (.inr (Nat.le_succ _)) O4⟩
      | false =>
        rw [hd] at x9
        clear hd
        have hs := scnIter_same (s, x) i
        rw [HIT.out] at hs
        have HS := Lib.hid hs
        have hz := HF.out.only.size
        have z2 := HF.out.zero.lt
        have hstep := sstep_any (N := fun z => N z ∧ z ≠ w.heap.size ∧ z ≠ w.heap.size + 1) y wr HF.out.holds HF.out.in_ (fun a b c => let ⟨p, l, q, r⟩ := HGD.out.act a b c; ⟨p, l, q, by have := HM.out; omega⟩) HGD.out.next (by rw [HS.out.1]; exact HC.out) (fun z hz => ⟨HN.out z (by omega), by omega, by omega⟩) (fun z hz => HNO.out z hz.1)
        have HST := Lib.hid hstep
        clear hs hstep hF
        go_wp2_with (first
          | (refine wpl_st rfl 53 _ _ rfl ((s'.scnStep y).2.cells (.slice p1 q1 r1) (.slice p2 q2 r2)) rfl _ rfl B4 (by kernel_rfl) rfl rfl rfl ?_; intro w4 A4 O4)
          | (go_at_call 21; refine HST.out.mono ?_; rintro e w3 hS
             obtain ⟨lv3, pv3, rfl, H3, I3, O3⟩ := hS.out
             obtain ⟨p1, q1, r1, rfl⟩ := I3.lists.formN
             obtain ⟨p2, r2, rfl⟩ := I3.pairs.form
             have B4 := HF.out.at_.only O3 OO.out.1
             generalize hq2 : (s'.scnStep y).2.pairs.length = q2 at *
             clear hq2)
          | (refine wpl_ld rfl 53 _ rfl (y.cells (.slice b1 m1 d1) (.slice b2 m2 d2)) rfl _ HF.out.at_ Tryz.underlying53 rfl (by kernel_rfl) rfl ?_))
        go_roundg (300 - (i + 1))
        case measure => omega
        case rel =>
          have hg2 : ScnGood (s'.scnStep y).2 (m + i + 1) := good_step HF.out.holds.ok (by rw [HS.out.1]; exact HC.out) HGD.out
          refine ⟨i + 1, rfl, by omega, (s'.scnStep y).1, (s'.scnStep y).2, p1, q1, r1, p2, q2, r2, scnIter_next HIT.out, hg2, H3.but OO.out O4, A4, (HF.out.zero.only O3 OP.out.1).only O4 (by show ¬ _ = _; omega), I3.only O4 (fun z hz e => hz.2.1 e), ?_⟩
          exact ((HF.out.only.trans O3).step (.inr (Nat.le_refl _)) O4)
    · have e : i = 300 := by omega
      subst e
      have HR := HIT
      clear hF
      go_wp2_with (first
        | (refine wpl_st rfl 53 _ _ rfl (y.cells (.slice b1 m1 d1) (.slice b2 m2 d2)) rfl _ rfl HF.out.zero (by kernel_rfl) rfl rfl rfl ?_; intro w4 A4 O4)
        | (refine wpl_ld rfl 53 _ rfl (y.cells (.slice b1 m1 d1) (.slice b2 m2 d2)) rfl _ HF.out.at_ Tryz.underlying53 rfl (by kernel_rfl) rfl ?_))
      refine bodyPost_ret (res_cell rfl _ _ _ _ _ rfl A4 Tryz.underlying53 rfl (by kernel_rfl)) rfl ?_
      rw [HR.out]
      exact ⟨_, _, rfl, HF.out.holds.but OP.out O4, (HF.out.in_.go (M := N) (fun z hz _ => hz.1) (fun z hz hl => O4.block z hl (fun e => hz.2.2 e))), HF.out.only.step (.inr (Nat.le_succ _)) O4⟩

end Go.Proofs.YtccmjljlfgbicaaGreat

