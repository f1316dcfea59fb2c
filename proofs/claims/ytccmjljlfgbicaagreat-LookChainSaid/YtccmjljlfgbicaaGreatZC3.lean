/- Regions that draw their order and lay what they took: what stands where an operation yields is known ahead of it. -/
import Derived.Test.YtccmjljlfgbicaaGreatRegQ
import Derived.Test.YtccmjljlfgbicaaGreatRefF
import Derived.Test.YtccmjljlfgbicaaGreatRefD
import Derived.Test.YtccmjljlfgbicaaGreatSeq
import Derived.Test.YtccmjljlfgbicaaGreatSt
import Derived.Test.YtccmjljlfgbicaaGreatZA
import Derived.Test.YtccmjljlfgbicaaGreatZLayR
import Derived.Test.YtccmjljlfgbicaaGreatZC1
import Derived.WalkKit
import Derived.ProofKit
import Derived.OpenShut
namespace Go.Proofs.YtccmjljlfgbicaaGreat
open Go.ChangeShapes Go.WideShapes Go.ChangeAt Go.RowKit

theorem wp_region_I {P : Program} {id : Nat} {Q : Exit → Act → World → Prop} {a : Act} {w : World} {l : List Oper} (G : (Nat → Bool) → (Nat → Value) → World → Prop) (hm : P.follows .mixedOrders = true) (hB : (dstsOk l && inTs l a.tmps.size && acyc l 0) = true)
    (h0 : G (fun _ => false) (fun j => match (l[j]?).bind (·.dst) with | some d => a.tmps.getD d undef | none => undef) w.drew) (hop : EachJ P l Q a G l 0) (hend : ∀ dn us w', G dn us w' → (∀ i, i < l.length → dn i = true) → Q .normal (fillA l us a) w') : (Code.region id l.toArray true).wp P Q a w := by
  obtain ⟨us0, hus⟩ : ∃ us0 : Nat → Value, us0 = fun j => match (l[j]?).bind (·.dst) with | some d => a.tmps.getD d undef | none => undef := ⟨_, rfl⟩
  rw [← hus] at h0
  simp only [Bool.and_eq_true] at hB
  obtain ⟨⟨hd, hb⟩, hc⟩ := hB
  refine wp_region_any hm ?_
  have hself : fillA l us0 a = a := by
    unfold fillA
    rw [fillT_self]
    intro j o d h1 h2
    rw [hus]
    simp [h1, h2]
  rw [← hself]
  refine wpAny_J (G := G) hd (fun i o ho e he hbd => by have := acyc_get hc ho e he hbd; omega) ?_ hend _ _ _ _ (by simp) ?_ ?_
  · intro i o ho dn us w1 hG hdn hdep
    have hO := hop.get ho dn us w1 (fillA l us a) (fill_eval hd hb) (fill_yielded hd hb) hG (by rw [Nat.zero_add]; exact hdn) (allD_of fun j hj => by
      obtain ⟨e, he, h2⟩ := List.mem_filterMap.1 hj
      split at h2
      · rename_i hbd
        injection h2 with h2
        rw [← h2]
        exact hdep e (by simpa using he) hbd
      · cases h2) (fun a' w' => ∃ v, a' = (fillA l us a).put o.dst v ∧ G (updB dn i) (updN us i v) w') (fun v w' hg => ⟨v, rfl, by rw [Nat.zero_add] at hg; exact hg⟩)
    unfold wpOp
    rw [show l.toArray[i]? = some o by simpa using ho]
    dsimp only
    split at hO
    · rename_i hw; rw [if_pos hw]; exact .inl hO
    · rename_i hw; rw [if_neg hw]; exact hO
  · unfold unl
    exact Nat.le_trans List.countP_le_length (by simp)
  · have e : (fun i => (Array.replicate l.toArray.size false).getD i false) = fun _ => false := by
      funext i
      by_cases hi : i < l.toArray.size
      · simp [Array.getD, Array.size_replicate]
      · simp [Array.getD, Array.size_replicate]
    rw [e]
    exact h0
/-- What is kept: number m is the last one; what stands there is known where it isn't done, too. -/
structure QI (F : Nat → Value → Prop) (m : Nat) (u : Value) (W : World) (dn : Nat → Bool) (us : Nat → Value) (w : World) : Prop where
  below : Below W.heap.size W w
  pre : ∀ j, dn j = true → F j (us j)
  old : dn m = false → us m = u
  ord : dn m = true → dn 0 = true
section
variable {F : Nat → Value → Prop} {m : Nat} {u : Value} {W w w' : World} {dn : Nat → Bool} {us : Nat → Value}
theorem QI.start (h : us m = u) : QI F m u W (fun _ => false) us W.drew := ⟨(Below.refl _ W).drew, fun _ e => (by cases e), fun _ => h, fun e => (by cases e)⟩
theorem QI.first (h : QI F m u W dn us w) {i : Nat} (hi : i ≠ m) {v : Value} (hv : F i v) : QI F m u W (updB dn i) (updN us i v) w :=
  ⟨h.below, fun j e => by
    by_cases q : j = i
    · subst q; rw [updN_eq]; exact hv
    · rw [updB_ne q] at e; rw [updN_ne q]; exact h.pre j e, fun e => (by
    rw [updB_ne hi.symm] at e; rw [updN_ne hi.symm]; exact h.old e), fun e => by
    rw [updB_ne hi.symm] at e
    by_cases q : 0 = i
    · subst q; exact updB_eq
    · rw [updB_ne q]; exact h.ord e⟩
theorem QI.last (h : QI F m u W dn us w) (h0 : dn 0 = true) {v : Value} (hv : F m v) : QI F m u W (updB dn m) (updN us m v) w :=
  ⟨h.below, fun j e => by
    by_cases q : j = m
    · subst q; rw [updN_eq]; exact hv
    · rw [updB_ne q] at e; rw [updN_ne q]; exact h.pre j e, fun e => (by rw [updB_eq] at e; cases e), fun _ => by
    by_cases q : 0 = m
    · subst q; exact updB_eq
    · rw [updB_ne q]; exact h0⟩
theorem QI.was (h : QI F m u W dn us w) (hd : dn 0 = false) : us m = u := h.old (by
  cases q : dn m with
  | false => rfl
  | true => rw [h.ord q] at hd; cases hd)
end
end Go.Proofs.YtccmjljlfgbicaaGreat

/- A region that lays the slot that it reads, at whatever place it reads it. -/
namespace Go.Proofs.YtccmjljlfgbicaaGreat
open Go.ChangeShapes Go.WideShapes Go.ChangeAt Go.RowKit

/-- What is kept: number m is the last one; what stands there is known where it isn't done, too. -/
structure QZ (z : Nat) (F : Nat → Value → Prop) (m : Nat) (u : Value) (W : World) (dn : Nat → Bool) (us : Nat → Value) (w : World) : Prop where
  below : Below W.heap.size W w
  pre : ∀ j, dn j = true → F j (us j)
  old : dn m = false → us m = u
  ord : dn m = true → dn z = true
section
variable {z : Nat} {F : Nat → Value → Prop} {m : Nat} {u : Value} {W w w' : World} {dn : Nat → Bool} {us : Nat → Value}
theorem QZ.start (h : us m = u) : QZ z F m u W (fun _ => false) us W.drew := ⟨(Below.refl _ W).drew, fun _ e => (by cases e), fun _ => h, fun e => (by cases e)⟩
theorem QZ.first (h : QZ z F m u W dn us w) {i : Nat} (hi : i ≠ m) {v : Value} (hv : F i v) : QZ z F m u W (updB dn i) (updN us i v) w :=
  ⟨h.below, fun j e => by
    by_cases q : j = i
    · subst q; rw [updN_eq]; exact hv
    · rw [updB_ne q] at e; rw [updN_ne q]; exact h.pre j e, fun e => (by
    rw [updB_ne hi.symm] at e; rw [updN_ne hi.symm]; exact h.old e), fun e => by
    rw [updB_ne hi.symm] at e
    by_cases q : z = i
    · subst q; exact updB_eq
    · rw [updB_ne q]; exact h.ord e⟩
theorem QZ.called (h : QZ z F m u W dn us w) {i : Nat} (hi : i ≠ m) {v : Value} (hv : F i v) (hb : Below w.heap.size w w') : QZ z F m u W (updB dn i) (updN us i v) w' :=
  ⟨h.below.trans (hb.mono h.below.size), fun j e => by
    by_cases q : j = i
    · subst q; rw [updN_eq]; exact hv
    · rw [updB_ne q] at e; rw [updN_ne q]; exact h.pre j e, fun e => (by
    rw [updB_ne hi.symm] at e; rw [updN_ne hi.symm]; exact h.old e), fun e => by
    rw [updB_ne hi.symm] at e
    by_cases q : z = i
    · subst q; exact updB_eq
    · rw [updB_ne q]; exact h.ord e⟩
theorem QZ.last (h : QZ z F m u W dn us w) (h0 : dn z = true) {v : Value} (hv : F m v) : QZ z F m u W (updB dn m) (updN us m v) w :=
  ⟨h.below, fun j e => by
    by_cases q : j = m
    · subst q; rw [updN_eq]; exact hv
    · rw [updB_ne q] at e; rw [updN_ne q]; exact h.pre j e, fun e => (by rw [updB_eq] at e; cases e), fun _ => by
    by_cases q : z = m
    · subst q; exact updB_eq
    · rw [updB_ne q]; exact h0⟩
theorem QZ.was (h : QZ z F m u W dn us w) (hd : dn z = false) : us m = u := h.old (by
  cases q : dn m with
  | false => rfl
  | true => rw [h.ord q] at hd; cases hd)
end
end Go.Proofs.YtccmjljlfgbicaaGreat

/- Contract of corrieref09.Chain. Printed by rchn.py. -/
namespace Go.Proofs.YtccmjljlfgbicaaGreat
open Go.ChangeShapes Go.WideShapes Go.ChangeAt Go.RowKit

/-- A row that one owns grew. -/
theorem grown_row2 {w w0 w1 w2 : World} {e : TypeId} {size n : Nat} {v : Value} {xs : List Value} (h : Below w.heap.size w w1) (R : w0.ownsRow w.heap.size e size v n xs) (hg : w1.grownBy w2 v.ownBlock) : Below w.heap.size w w2 := by
  rcases R.2 with ⟨rfl, _⟩ | ⟨g, cap, cur, rfl, h2, _⟩
  · exact ⟨hg.os.trans h.os, hg.tape.trans h.tape, hg.output.trans h.output, Nat.le_trans h.size hg.size, fun i hi => (hg.block i (by have := h.size; omega) (by intro e; cases e)).trans (h.block i hi)⟩
  · exact grown_below h hg h2 h.size

set_option maxRecDepth 100000 in
set_option maxHeartbeats 4000000 in
theorem rchain_any {r : RV} {s : St} (b : Int) (w : World) (h : RefIn w r s) (hok : s.ok) :
    Calls Tryz.prog 44 #[r.val s, .int .i64 b] w fun e w' => ∃ v, e = .returned v ∧ w'.ownsRow w.heap.size 3 1 v (s.chain b).length ((s.chain b).map (.int .i64)) ∧ Below w.heap.size w w' := by
  have A0 := At.new w 45 (r.cells s)
  have D0 : Below w.heap.size w (w.alloc (.cells (r.cells s) 45)) := (Below.refl _ w).alloc (Nat.le_refl _) _
  have HR := Lib.hid (h.below D0)
  have HM := Lib.hid hok.may
  have HPK := Lib.hid (fun p => peek_range hok p)
  have hnb := nodes_bounds hok.may
  obtain ⟨m, hm⟩ : ∃ m : Nat, s.c.nodes = m := ⟨s.c.nodes.toNat, by omega⟩
  have hm9 : m ≤ 100000 := by omega
  have HNM := Lib.hid hm
  have hmt : s.c.nodes.toNat = m := by omega
  obtain ⟨hd, hhd⟩ : ∃ hd, s.headAt b = hd := ⟨_, rfl⟩
  have hch : s.chain b = if hd < 0 then [] else s.behind m hd := by unfold St.chain; rw [hhd, hmt]
  have HHD := Lib.hid (show atOr b s.c.buckets (1 + b) = hd from hhd)
  have HCH := Lib.hid hch
  obtain ⟨i0, hi0, hz0, hz1, hz2⟩ := info_parts intinfo
  clear h hok hnb hm hmt hhd hch
  go_enter Tryz.func44, Tryz.ntmps44
  go_upto_region 1 with fail
  generalize w.alloc (.cells (r.cells s) 45) = w0 at *
  obtain ⟨⟨b0, b1, b2, b3, b4, -, -, -, -, -, -, -, -, -, -, -, -⟩, bf, bl⟩ := at17 A0
  have HA := Lib.hid A0
  clear A0 bf
  by_cases hneg : hd < 0
  · go_wp2_with (go_at_call 74; refine (rhead_any s.c _ _ HM.out).mono ?_; rintro e w3 ⟨rfl, hb3⟩; rw [HHD.out])
    go_ret
    refine ⟨_, rfl, ?_, D0.trans (hb3.mono D0.size)⟩
    rw [HCH.out, if_pos hneg]
    exact World.ownsRow_nil _ _ _ _
  · go_wp2_with (go_at_call 74; refine (rhead_any s.c _ _ HM.out).mono ?_; rintro e w3 ⟨rfl, hb3⟩; rw [HHD.out])
    clear b0 b1 b2 b3 b4
    go_loopg [5, 6, 7] m (fun gg v5 v6 v7 wr => ∃ (i : Nat) (at_ : Int) (out : List Int), v6 = .int .i64 at_ ∧ v7 = .int .i64 i ∧ i + gg = m ∧ out.length = i ∧ s.chain b = out ++ s.behind gg at_ ∧ wr.ownsRow w0.heap.size 3 1 v5 i (out.map (.int .i64)) ∧ Below w0.heap.size w0 wr)
    case atStart => exact ⟨0, hd, [], rfl, rfl, by omega, rfl, by rw [HCH.out, if_neg (by omega)]; rfl, World.ownsRow_nil _ _ _ _, hb3⟩
    case round =>
      obtain ⟨i, at_, out, rfl, rfl, hi, hol, hch, hR, hb⟩ := hrel
      obtain ⟨⟨b0, b1, b2, b3, b4, -, -, -, -, -, -, -, -, -, -, -, -⟩, bf, -⟩ := at17 (HA.out.below' hb)
      clear bf
      have HRW := Lib.hid hR
      have HHC := Lib.hid hch
      clear hR hch hb3
      have HBB := Lib.hid hb
      by_cases hlt : i < m
      · obtain ⟨g', hg'⟩ : ∃ g', gk = g' + 1 := ⟨gk - 1, by omega⟩
        have HG' := Lib.hid hg'
        obtain ⟨f, hf⟩ : ∃ f, s.follow at_ = f := ⟨_, rfl⟩
        have HF := Lib.hid (show s.peek (s.nextAt at_) / 2 = f from hf)
        have HBH := Lib.hid (show s.behind (g' + 1) at_ = if f = 0 then [] else f :: s.behind g' f by rw [← hf]; rfl)
        clear hf hg'
        go_upto_region 8 with (go_at_call 104; refine (rnodes_any s.c _ HM.out).mono ?_; rintro e w2 ⟨rfl, hb2⟩; rw [HNM.out])
        have D2 := hb.trans (hb2.mono hb.size)
        have HD2 := Lib.hid D2
        clear b0 b1 b2 b3 b4
        refine wp_region_I (l := [_, _, _, _, _, _, _, _]) (QZ 3 (fun j v => match j with | 0 => v = r.val s | 1 => v = .pointer (some ⟨w.heap.size, 0, none⟩) | 2 => v = s.c.val | 3 => v = .int .i64 at_ | 4 => v = .int .i64 (s.nextAt at_) | 5 => v = .int .u64 (s.peek (s.nextAt at_)) | 6 => v = .int .i64 f | 7 => v = .int .i64 f | _ => True) 7 (.int .i64 at_) w2) (by kernel_rfl) (by kernel_rfl) (QZ.start rfl) ⟨?_, ?_, ?_, ?_, ?_, ?_, ?_, ?_, trivial⟩ ?_
        · intro dn us w6 A hev hy hG hdn hdep K hK
          have e0 : A.eval (.tmp 2) = .pointer (some ⟨w.heap.size, 0, none⟩) := by rw [hev]; rfl
          rw [if_pos (by rfl)]
          refine op_ld 45 (.tmp 2) rfl (r.cells s) e0 _ ((HA.out.below' HD2.out).below' hG.below) Tryz.underlying45 rfl (by kernel_rfl) (rfl) ?_
          exact hK _ _ (hG.first (by decide) rfl)
        · intro dn us w6 A hev hy hG hdn hdep K hK
          have e0 : A.eval (.tmp 2) = .pointer (some ⟨w.heap.size, 0, none⟩) := by rw [hev]; rfl
          rw [if_pos (by rfl)]
          unfold Oper.wp execOp
          generalize A.eval = ev at e0 ⊢
          go_simp
          exact hK _ _ (hG.first (by decide) (by first | rfl | (simp; done) | (simp; omega) | (simp; assumption)))
        · intro dn us w6 A hev hy hG hdn hdep K hK
          have d1 : dn 1 = true := allD_mem hdep (by decide)
          have e0 : A.eval (.tmp 22) = .pointer (some ⟨w.heap.size, 0, none⟩) := by rw [hev]; exact hG.pre 1 d1
          rw [if_pos (by rfl)]
          refine op_ld 35 (.tmp 22) rfl (s.c.cells) e0 _ ((HA.out.below' HD2.out).below' hG.below) Tryz.underlying35 rfl (by kernel_rfl) (rfl) ?_
          exact hK _ _ (hG.first (by decide) rfl)
        · intro dn us w6 A hev hy hG hdn hdep K hK
          have e0 : A.eval (.tmp 6) = .int .i64 at_ := by rw [hev]; exact hG.was hdn
          rw [if_pos (by rfl)]
          unfold Oper.wp execOp
          generalize A.eval = ev at e0 ⊢
          go_simp
          exact hK _ _ (hG.first (by decide) rfl)
        · intro dn us w6 A hev hy hG hdn hdep K hK
          have d2 : dn 2 = true := allD_mem hdep (by decide)
          have d3 : dn 3 = true := allD_mem hdep (by decide)
          have e0 : A.eval (.tmp 23) = s.c.val := by rw [hev]; exact hG.pre 2 d2
          have e1 : A.eval (.tmp 24) = .int .i64 at_ := by rw [hev]; exact hG.pre 3 d3
          have ef : A.eval (.func 105) = .func (.func 105) #[] #[] := by rw [hev]; rfl
          rw [if_pos (by rfl)]
          unfold Oper.wp execOp
          generalize A.eval = ev at e0 e1 ef ⊢
          go_simp
          refine (rnext_any s.c at_ w6 HM.out).mono ?_
          rintro e wq ⟨rfl, hb9⟩
          exact hK _ _ (hG.called (by decide) rfl hb9)
        · intro dn us w6 A hev hy hG hdn hdep K hK
          have d0 : dn 0 = true := allD_mem hdep (by decide)
          have d4 : dn 4 = true := allD_mem hdep (by decide)
          have e0 : A.eval (.tmp 21) = r.val s := by rw [hev]; exact hG.pre 0 d0
          have e1 : A.eval (.tmp 25) = .int .i64 (s.nextAt at_) := by rw [hev]; exact hG.pre 4 d4
          have ef : A.eval (.func 66) = .func (.func 66) #[] #[] := by rw [hev]; rfl
          rw [if_pos (by rfl)]
          unfold Oper.wp execOp
          generalize A.eval = ev at e0 e1 ef ⊢
          go_simp
          refine (rwpeek_any (s.nextAt at_) w6 ((HR.out.below HD2.out).below hG.below)).mono ?_
          rintro e wq ⟨rfl, hb9⟩
          exact hK _ _ (hG.called (by decide) rfl hb9)
        · intro dn us w6 A hev hy hG hdn hdep K hK
          have d5 : dn 5 = true := allD_mem hdep (by decide)
          have e0 : A.eval (.tmp 26) = .int .u64 (s.peek (s.nextAt at_)) := by rw [hev]; exact hG.pre 5 d5
          have ef : A.eval (.func 75) = .func (.func 75) #[] #[] := by rw [hev]; rfl
          rw [if_pos (by rfl)]
          unfold Oper.wp execOp
          generalize A.eval = ev at e0 ef ⊢
          go_simp
          refine (rindex_any (s.peek (s.nextAt at_)) w6 (HPK.out _).1 (HPK.out _).2).mono ?_
          rintro e wq ⟨rfl, rfl⟩
          exact hK _ _ (hG.first (by decide) (by show Value.int _ _ = Value.int _ _; rw [HF.out]))
        · intro dn us w6 A hev hy hG hdn hdep K hK
          have d6 : dn 6 = true := allD_mem hdep (by decide)
          have d3 : dn 3 = true := allD_mem hdep (by decide)
          have e0 : A.eval (.tmp 27) = .int .i64 f := by rw [hev]; exact hG.pre 6 d6
          rw [if_pos (by rfl)]
          unfold Oper.wp execOp
          generalize A.eval = ev at e0 ⊢
          go_simp
          exact hK _ _ (hG.last d3 rfl)
        intro dn us wA hG hall
        have u7 : us 7 = .int .i64 f := hG.pre 7 (hall 7 (by decide))
        have DX := hb2.trans (hG.below.mono hb2.size)
        have DA := hb.trans (DX.mono hb.size)
        simp only [fillA, fillT, Nat.reduceAdd, List.setIfInBounds_toArray, List.set_cons_zero, List.set_cons_succ, u7]
        clear hG hall u7 D2 hb2
        have R := ownsRow_below HRW.out DX rfl
        by_cases hz : f = 0
        · subst hz
          go_wp2_with fail
          go_ret
          refine ⟨_, rfl, ?_, D0.trans (DA.mono D0.size)⟩
          have e : s.chain b = out := by rw [HHC.out, HG'.out, HBH.out]; simp
          rw [e, hol]
          exact R.mono D0.size
        · have hzb : (f == 0) = false := by simpa using hz
          go_wp2_with (at_builtin; refine wpList_append_own _ rfl (.tmp 31) (.tmp 33) 39 rfl w0.heap.size 3 i0 (.int .i64 0) 1 8 Tryz.underlying39 hi0 hz0 hz1 hz2 rfl (by decide) _ i _ rfl (ownsRow_below R ((Below.refl _ _).alloc (Nat.le_refl _) _) rfl) ⟨wA.heap.size, 0, none⟩ 1 1 [.int .i64 f] rfl rfl ?c1 ?c2 ?c3 ?c4 ?c5 ?next)
          case c1 =>
            intro j u hu
            match j, hu with
            | 0, hu => cases hu; exact (At.new wA 3 #[.int .i64 f]).cell 0
            | j + 1, hu => simp at hu
          case c2 =>
            intro u hu
            simp only [List.mem_cons, List.not_mem_nil, or_false] at hu
            rw [hu]; rfl
          case c3 => unfold maxLen; omega
          case c4 => omega
          case c5 => have := DA.size; simp; omega
          case next =>
            intro v2 w8 hR2 hg2 _
            have hB8 : Below w0.heap.size w0 w8 := grown_row2 (DA.trans (((Below.refl _ wA).alloc (Nat.le_refl _) _).mono DA.size)) R hg2
            go_wp2_with fail
            go_roundg g'
            case measure => have := HG'.out; omega
            case rel =>
              refine ⟨i + 1, f, out ++ [f], rfl, rfl, by have := HG'.out; omega, by rw [List.length_append, hol]; rfl, ?_, ?_, hB8⟩
              · rw [HHC.out, HG'.out, HBH.out, if_neg hz, List.append_assoc]; rfl
              · rw [List.map_append]; exact hR2
      · have e : i = m := by omega
        go_wp2_with (go_at_call 104; refine (rnodes_any s.c _ HM.out).mono ?_; rintro e w2 ⟨rfl, hb2⟩; rw [HNM.out])
        go_ret
        refine ⟨_, rfl, ?_, D0.trans ((hb.trans (hb2.mono hb.size)).mono D0.size)⟩
        have e0 : gk = 0 := by omega
        have e1 : s.chain b = out := by rw [HHC.out, e0]; show out ++ [] = out; rw [List.append_nil]
        rw [e1, hol]
        exact (ownsRow_below HRW.out hb2 rfl).mono D0.size
end Go.Proofs.YtccmjljlfgbicaaGreat

/- Contract of corrieref01.Same, of two rows that are the same. Printed by same01.py out of Same01.in. -/
namespace Go.Proofs.YtccmjljlfgbicaaGreat
open Go.ChangeShapes Go.WideShapes Go.ChangeAt Go.RowKit

theorem RowAt.below {N : Nat → Prop} {ao : Option Addr} {l : List Int} {w w' : World} (h : RowAt N ao l w) (hb : Below w.heap.size w w') : RowAt N ao l w' := fun t n ht => by
  obtain ⟨g, h1, h2, h3⟩ := h t n ht
  exact ⟨g, h1, h2, by rw [hb.cell (World.block_lt_of_cell? _ _ h3)]; exact h3⟩

set_option maxRecDepth 100000 in
set_option maxHeartbeats 4000000 in
theorem same01_eq {l : List Int} {N M : Nat → Prop} {ao bo : Option Addr} {cap cap2 : Nat} (w : World) (hp : RowAt N ao l w) (hq : RowAt M bo l w) (hl : l.length ≤ 100000) :
    Calls Tryz.prog 43 #[.slice ao l.length cap, .slice bo l.length cap2] w fun e w' => e = .returned (.bool true) ∧ Below w.heap.size w w' := by
  have HP := Lib.hid hp
  have HQ := Lib.hid hq
  clear hp hq
  obtain ⟨n, hn⟩ : ∃ n, n = l.length := ⟨_, rfl⟩
  have HN := Lib.hid hn
  rw [← hn] at hl ⊢
  clear hn
  go_enter Tryz.func43, Tryz.ntmps43
  go_wp2_with fail
  go_loopg [5] n (fun gg v5 wr => ∃ i : Nat, v5 = .int .i64 i ∧ i + gg = n ∧ Below w.heap.size w wr)
  case atStart => exact ⟨0, rfl, by omega, Below.refl _ _⟩
  case round =>
    obtain ⟨i, rfl, hi, hb⟩ := hrel
    by_cases hlt : i < n
    · obtain ⟨p, hpi⟩ : ∃ p, l[i]? = some p := ⟨_, List.getElem?_eq_getElem (by rw [← HN.out]; exact hlt)⟩
      obtain ⟨b1, rfl, _, c0⟩ := (HP.out.below hb) _ _ hpi
      obtain ⟨b2, rfl, _, d0⟩ := (HQ.out.below hb) _ _ hpi
      clear hpi
      go_wp2_with fail
      refine wp_region_J (l := [_, _, _, _, _, _, _, _, _]) (QG (fun j v => match j with | 0 => v = .slice (some ⟨b1, 0, none⟩) n cap | 1 => v = .int .i64 i | 2 => v = .pointer (some ⟨b1, i, none⟩) | 3 => v = .int .i64 p | 4 => v = .slice (some ⟨b2, 0, none⟩) n cap2 | 5 => v = .int .i64 i | 6 => v = .pointer (some ⟨b2, i, none⟩) | 7 => v = .int .i64 p | 8 => v = .bool false | _ => True) wr) (by kernel_rfl) (by kernel_rfl) (fun us => QG.start us) ⟨?_, ?_, ?_, ?_, ?_, ?_, ?_, ?_, ?_, trivial⟩ ?_
      · intro dn us w6 A hev hy hG hdn hdep K hK
        have e0 : A.eval (.tmp 0) = .slice (some ⟨b1, 0, none⟩) n cap := by rw [hev]; rfl
        rw [if_pos (by rfl)]
        unfold Oper.wp execOp
        generalize A.eval = ev at e0 ⊢
        go_simp
        exact hK _ _ (hG.first (by first | rfl | (simp; done) | (simp; omega) | (simp; assumption)))
      · intro dn us w6 A hev hy hG hdn hdep K hK
        have e0 : A.eval (.tmp 5) = .int .i64 i := by rw [hev]; rfl
        rw [if_pos (by rfl)]
        unfold Oper.wp execOp
        generalize A.eval = ev at e0 ⊢
        go_simp
        exact hK _ _ (hG.first (by first | rfl | (simp; done) | (simp; omega) | (simp; assumption)))
      · intro dn us w6 A hev hy hG hdn hdep K hK
        have d0 : dn 0 = true := allD_mem hdep (by decide)
        have d1 : dn 1 = true := allD_mem hdep (by decide)
        have e0 : A.eval (.tmp 17) = .slice (some ⟨b1, 0, none⟩) n cap := by rw [hev]; exact hG.pre 0 d0
        have e1 : A.eval (.tmp 18) = .int .i64 i := by rw [hev]; exact hG.pre 1 d1
        rw [if_pos (by rfl)]
        unfold Oper.wp execOp
        generalize A.eval = ev at e0 e1 ⊢
        go_simp
        exact hK _ _ (hG.first (by first | rfl | (simp; done) | (simp; omega) | (simp; assumption)))
      · intro dn us w6 A hev hy hG hdn hdep K hK
        have d2 : dn 2 = true := allD_mem hdep (by decide)
        have e0 : A.eval (.tmp 19) = .pointer (some ⟨b1, i, none⟩) := by rw [hev]; exact hG.pre 2 d2
        have zc0 : w6.cell? ⟨b1, i, none⟩ = some (.int .i64 p) := by rw [hG.below.cell (World.block_lt_of_cell? _ _ c0)]; exact c0
        rw [if_pos (by rfl)]
        unfold Oper.wp execOp
        generalize A.eval = ev at e0 ⊢
        go_simp
        exact hK _ _ (hG.first (by first | rfl | (simp; done) | (simp; omega) | (simp; assumption)))
      · intro dn us w6 A hev hy hG hdn hdep K hK
        have e0 : A.eval (.tmp 1) = .slice (some ⟨b2, 0, none⟩) n cap2 := by rw [hev]; rfl
        rw [if_pos (by rfl)]
        unfold Oper.wp execOp
        generalize A.eval = ev at e0 ⊢
        go_simp
        exact hK _ _ (hG.first (by first | rfl | (simp; done) | (simp; omega) | (simp; assumption)))
      · intro dn us w6 A hev hy hG hdn hdep K hK
        have e0 : A.eval (.tmp 5) = .int .i64 i := by rw [hev]; rfl
        rw [if_pos (by rfl)]
        unfold Oper.wp execOp
        generalize A.eval = ev at e0 ⊢
        go_simp
        exact hK _ _ (hG.first (by first | rfl | (simp; done) | (simp; omega) | (simp; assumption)))
      · intro dn us w6 A hev hy hG hdn hdep K hK
        have d4 : dn 4 = true := allD_mem hdep (by decide)
        have d5 : dn 5 = true := allD_mem hdep (by decide)
        have e0 : A.eval (.tmp 21) = .slice (some ⟨b2, 0, none⟩) n cap2 := by rw [hev]; exact hG.pre 4 d4
        have e1 : A.eval (.tmp 22) = .int .i64 i := by rw [hev]; exact hG.pre 5 d5
        rw [if_pos (by rfl)]
        unfold Oper.wp execOp
        generalize A.eval = ev at e0 e1 ⊢
        go_simp
        exact hK _ _ (hG.first (by first | rfl | (simp; done) | (simp; omega) | (simp; assumption)))
      · intro dn us w6 A hev hy hG hdn hdep K hK
        have d6 : dn 6 = true := allD_mem hdep (by decide)
        have e0 : A.eval (.tmp 23) = .pointer (some ⟨b2, i, none⟩) := by rw [hev]; exact hG.pre 6 d6
        have zd0 : w6.cell? ⟨b2, i, none⟩ = some (.int .i64 p) := by rw [hG.below.cell (World.block_lt_of_cell? _ _ d0)]; exact d0
        rw [if_pos (by rfl)]
        unfold Oper.wp execOp
        generalize A.eval = ev at e0 ⊢
        go_simp
        exact hK _ _ (hG.first (by first | rfl | (simp; done) | (simp; omega) | (simp; assumption)))
      · intro dn us w6 A hev hy hG hdn hdep K hK
        have d3 : dn 3 = true := allD_mem hdep (by decide)
        have d7 : dn 7 = true := allD_mem hdep (by decide)
        have e0 : A.eval (.tmp 20) = .int .i64 p := by rw [hev]; exact hG.pre 3 d3
        have e1 : A.eval (.tmp 24) = .int .i64 p := by rw [hev]; exact hG.pre 7 d7
        rw [if_pos (by rfl)]
        unfold Oper.wp execOp
        generalize A.eval = ev at e0 e1 ⊢
        go_simp
        exact hK _ _ (hG.first (by first | rfl | (simp; done) | (simp; omega) | (simp; assumption)))
      intro dn us wA hG hall
      have u8 : us 8 = .bool false := hG.pre 8 (hall 8 (by decide))
      have DA := hG.below
      simp only [fillA, fillT, Nat.reduceAdd, List.setIfInBounds_toArray, List.set_cons_zero, List.set_cons_succ, u8]
      clear hG hall u8
      go_wp2_with fail
      go_roundg (n - (i + 1))
      case measure => omega
      case rel => exact ⟨i + 1, rfl, by omega, hb.trans (DA.mono hb.size)⟩
    · go_wp2_with fail
      go_ret
      exact ⟨rfl, hb⟩
end Go.Proofs.YtccmjljlfgbicaaGreat

/- What is kept in a region that draws, where values of two kinds are told with memory. -/
namespace Go.Proofs.YtccmjljlfgbicaaGreat
open Go.ChangeShapes Go.WideShapes Go.ChangeAt Go.RowKit

/-- A row of numbers, as a value. -/
def RowV (l : List Int) (v : Value) (w : World) : Prop := ∃ ao cap, v = .slice ao l.length cap ∧ RowAt (fun _ => True) ao l w
theorem RowV.below {l : List Int} {v : Value} {w w' : World} (h : RowV l v w) (hb : Below w.heap.size w w') : RowV l v w' := by
  obtain ⟨ao, c, e, h⟩ := h
  exact ⟨ao, c, e, h.below hb⟩
structure QV (L1 L2 : List Nat) (l1 l2 : List Int) (F : Nat → Value → Prop) (W : World) (dn : Nat → Bool) (us : Nat → Value) (w : World) : Prop where
  below : Below W.heap.size W w
  pre : ∀ j, dn j = true → F j (us j)
  mem1 : ∀ j, j ∈ L1 → dn j = true → RowV l1 (us j) w
  mem2 : ∀ j, j ∈ L2 → dn j = true → RowV l2 (us j) w
section
variable {L1 L2 : List Nat} {l1 l2 : List Int} {F : Nat → Value → Prop} {W w w' : World} {dn : Nat → Bool} {us : Nat → Value}
theorem QV.start (us : Nat → Value) : QV L1 L2 l1 l2 F W (fun _ => false) us W.drew := ⟨(Below.refl _ W).drew, fun _ e => (by cases e), fun _ _ e => (by cases e), fun _ _ e => (by cases e)⟩
theorem QV.put (h : QV L1 L2 l1 l2 F W dn us w) {i : Nat} {v : Value} (hv : F i v) (hb : Below w.heap.size w w') (h1 : i ∈ L1 → RowV l1 v w') (h2 : i ∈ L2 → RowV l2 v w') : QV L1 L2 l1 l2 F W (updB dn i) (updN us i v) w' :=
  ⟨h.below.trans (hb.mono h.below.size), fun j e => by
    by_cases q : j = i
    · subst q; rw [updN_eq]; exact hv
    · rw [updB_ne q] at e; rw [updN_ne q]; exact h.pre j e, fun j hj e => by
    by_cases q : j = i
    · subst q; rw [updN_eq]; exact h1 hj
    · rw [updB_ne q] at e; rw [updN_ne q]; exact (h.mem1 j hj e).below hb, fun j hj e => by
    by_cases q : j = i
    · subst q; rw [updN_eq]; exact h2 hj
    · rw [updB_ne q] at e; rw [updN_ne q]; exact (h.mem2 j hj e).below hb⟩
theorem QV.quiet (h : QV L1 L2 l1 l2 F W dn us w) {i : Nat} (hi : i ∉ L1 ∧ i ∉ L2) {v : Value} (hv : F i v) (hb : Below w.heap.size w w') : QV L1 L2 l1 l2 F W (updB dn i) (updN us i v) w' :=
  h.put hv hb (fun e => absurd e hi.1) (fun e => absurd e hi.2)
theorem QV.plain (h : QV L1 L2 l1 l2 F W dn us w) {i : Nat} (hi : i ∉ L1 ∧ i ∉ L2) {v : Value} (hv : F i v) : QV L1 L2 l1 l2 F W (updB dn i) (updN us i v) w :=
  h.quiet hi hv (Below.refl _ _)
end
end Go.Proofs.YtccmjljlfgbicaaGreat

/- LookChain, the walk. Printed by lchw.py out of LcW.in. -/
namespace Go.Proofs.YtccmjljlfgbicaaGreat
open Go.ChangeShapes Go.WideShapes Go.ChangeAt Go.RowKit

theorem act09_same (s : St) (a : GAct) : (s.act09 a).c = s.c ∧ (s.act09 a).ops = s.ops ∧ (s.act09 a).nodes = s.nodes ∧ (s.act09 a).thr = s.thr := by
  unfold St.act09; split <;> exact ⟨rfl, rfl, rfl, rfl⟩
theorem RefIn.box {r0 : RV} {p : Sl} {s : St} {w w' W : World} {g : Nat} {t : TypeId} {cs : Array Value} (h : RefIn w { r0 with w := p } s) (hl : 2 ≤ s.words.length) (hr0 : RowsOff r0 (fun j => ¬ j < W.heap.size)) (hA : At w g t cs) (hc : noTwo cs.toList = true) (hg : W.heap.size ≤ g) (ho : Only (fun j => j = g) w w') : RefIn w' { r0 with w := p } s :=
  ⟨h.words.only ho fun b o e _ => words_apart2 h.words hA hc hl b o e, h.book.only ho ⟨fun b o e k => hr0.cs b o e (by have e' : b = g := k; omega), fun b o e k => hr0.is b o e (by have e' : b = g := k; omega), fun b o e k => hr0.ms b o e (by have e' : b = g := k; omega), fun b o e k => hr0.os b o e (by have e' : b = g := k; omega), fun b o e k => hr0.ns b o e (by have e' : b = g := k; omega)⟩⟩
theorem aside_of {k : Blks} {r : RV} {s : St} {w : World} (h : Holds k s w) (hr : RowsOff r (fun j => j < w.heap.size)) (hw : ∀ b o, r.w.1 = some ⟨b, o, none⟩ → ¬ b < w.heap.size) : Aside k r :=
  ⟨hr.imp fun b e => h.own_lt b e, fun b o e k => hw b o e (h.own_lt b k)⟩
theorem keep_below {k : Blks} {w w1 w2 : World} (h : Below w.heap.size w w1) (hO : Only (Own k) w1 w2) (hk : ∀ i, Own k i → w.heap.size ≤ i) : Below w.heap.size w w2 :=
  h.trans (hO.below h.size fun i hi e => by have := hk i e; omega)

theorem new_below {w w' : World} {o : Obj} (h : Only (fun j => j = w.heap.size) (w.alloc o) w') : Below w.heap.size w w' :=
  ((Below.refl _ w).alloc (Nat.le_refl _) _).trans (h.below (by simp) fun j hj e => by have e' : j = w.heap.size := e; omega)
/-- What is known at the head of each round. -/
structure CAt (k : Blks) (r0 : RV) (w : World) (g9 : Nat) (s : St) (p : Sl) (wr : World) : Prop where
  both : Both k { r0 with w := p } s wr
  t9 : At wr g9 45 (RV.cells { r0 with w := p } s)
  below : Below w.heap.size w wr

set_option maxRecDepth 100000 in
set_option maxHeartbeats 4000000 in
theorem lookchain_walk {c : Scene} {v : Value} {ia ca ao : Option Addr} {ic cc ac : Nat} {l : List GAct} (bk : Int) (w : World) (hx : c.fits) (hS : SceneAt w v c ia ca ic cc) (hL : ReadAt w ao (actsV l)) (hf : ∀ a ∈ l, a.fits) :
    Calls Tryz.prog 8 #[v, .slice ao l.length ac, .int .i64 bk] w fun e w' => e = .returned (.bool true) ∧ Below w.heap.size w w' := by
  have HS := Lib.hid hS
  obtain ⟨rfl, _, _⟩ := hS
  have HX := Lib.hid hx
  have HLL := Lib.hid hL
  have HFF := Lib.hid hf
  clear hx hL hf
  have E2 := At.new w 25 #[.int .u8 c.fuel, .slice ia c.items.length ic, .slice ca c.calls.length cc]
  have D0 : Below w.heap.size w (w.alloc (.cells #[.int .u8 c.fuel, .slice ia c.items.length ic, .slice ca c.calls.length cc] 25)) := (Below.refl _ w).alloc (Nat.le_refl _) _
  cases hfew : c.few with
  | false =>
    have HF := Lib.hid hfew
    clear hfew
    go_enter Tryz.func8, Tryz.ntmps8
    go_upto_region 1 with fail
    generalize w.alloc (.cells #[.int .u8 c.fuel, .slice ia c.items.length ic, .slice ca c.calls.length cc] 25) = w0 at *
    go_wp2_with (first
      | (go_at_call 14; refine (few_any _).mono ?_; rintro e w2 ⟨rfl, hb2⟩; rw [HF.out])
      | (refine wpl_ld rfl 25 _ rfl #[.int .u8 c.fuel, .slice ia c.items.length ic, .slice ca c.calls.length cc] rfl _ (E2.below' hb1) Tryz.underlying25 rfl (by kernel_rfl) rfl ?_)
      | (go_at_call 40; refine (awake09_any _).mono ?_; rintro e w1 ⟨rfl, hb1⟩))
    go_ret
    exact ⟨rfl, D0.trans ((hb1.trans (hb2.mono hb1.size)).mono D0.size)⟩
  | true =>
   have HF := Lib.hid hfew
   have hlen : c.items.length ≤ 12 ∧ c.calls.length ≤ 6 := by
     unfold Scene.few at hfew
     simpa using hfew
   clear hfew
   by_cases h20 : l.length ≤ 20
   case neg =>
    go_enter Tryz.func8, Tryz.ntmps8
    go_upto_region 1 with fail
    generalize w.alloc (.cells #[.int .u8 c.fuel, .slice ia c.items.length ic, .slice ca c.calls.length cc] 25) = w0 at *
    go_wp2_with (first
      | (go_at_call 14; refine (few_any _).mono ?_; rintro e w2 ⟨rfl, hb2⟩; rw [HF.out])
      | (refine wpl_ld rfl 25 _ rfl #[.int .u8 c.fuel, .slice ia c.items.length ic, .slice ca c.calls.length cc] rfl _ (E2.below' hb1) Tryz.underlying25 rfl (by kernel_rfl) rfl ?_)
      | (go_at_call 40; refine (awake09_any _).mono ?_; rintro e w1 ⟨rfl, hb1⟩))
    go_ret
    exact ⟨rfl, D0.trans ((hb1.trans (hb2.mono hb1.size)).mono D0.size)⟩
   case pos =>
    have hlp := lay_path HX.out hlen.1
    have HL := Lib.hid hlen
    have HOK := Lib.hid (show c.lay.ok from hlp.1)
    obtain ⟨m, hm⟩ : ∃ m : Nat, m = l.length := ⟨_, rfl⟩
    have HM := Lib.hid hm
    have hm9 : m ≤ 20 := by omega
    have HACT := Lib.hid (fun (w' : World) (hb : Below w.heap.size w w') (i : Nat) (a : GAct) (h : l[i]? = some a) => act_read (HLL.out.below hb) h)
    rw [← hm]
    clear hm
    clear hlp hlen h20
    go_enter Tryz.func8, Tryz.ntmps8
    go_upto_region 1 with fail
    generalize w.alloc (.cells #[.int .u8 c.fuel, .slice ia c.items.length ic, .slice ca c.calls.length cc] 25) = w0 at *
    go_wp2_with (first
      | (refine wpl_st rfl 45 _ _ rfl (r.cells c.lay) rfl _ rfl (At.new w4 _ _) (by kernel_rfl) rfl rfl rfl ?_; intro w5 E9 O9
         have D45 := new_below O9)
      | (go_at_call 16; refine (rlay_any w3 HX.out HL.out.1 HL.out.2 ⟨rfl, HS.out.items.below D3, HS.out.calls.below D3⟩).mono ?_; rintro e w4 ⟨r, rfl, hR4, hb4, hoff, hoffw⟩
         have HAS := Lib.hid (aside_of hH3 hoff hoffw)
         clear hoff hoffw)
      | (refine wpl_ld rfl 25 _ rfl #[.int .u8 c.fuel, .slice ia c.items.length ic, .slice ca c.calls.length cc] rfl _ (((E2.below' hb1).below' hb2).below' hb3) Tryz.underlying25 rfl (by kernel_rfl) rfl ?_)
      | (go_at_call 41; refine (lay09_any w2 HX.out HL.out.1 HL.out.2 ⟨rfl, HS.out.items.below D2, HS.out.calls.below D2⟩).mono ?_; rintro e w3 ⟨k, rfl, hH3, hK, hb3⟩
         have D3 := D2.trans (hb3.mono D2.size))
      | (refine wpl_ld rfl 25 _ rfl #[.int .u8 c.fuel, .slice ia c.items.length ic, .slice ca c.calls.length cc] rfl _ ((E2.below' hb1).below' hb2) Tryz.underlying25 rfl (by kernel_rfl) rfl ?_)
      | (go_at_call 14; refine (few_any _).mono ?_; rintro e w2 ⟨rfl, hb2⟩; rw [HF.out]
         have D2 := (D0.trans (hb1.mono D0.size)).trans (hb2.mono (by have := D0.size; have := hb1.size; omega)))
      | (refine wpl_ld rfl 25 _ rfl #[.int .u8 c.fuel, .slice ia c.items.length ic, .slice ca c.calls.length cc] rfl _ (E2.below' hb1) Tryz.underlying25 rfl (by kernel_rfl) rfl ?_)
      | (go_at_call 40; refine (awake09_any _).mono ?_; rintro e w1 ⟨rfl, hb1⟩))
    have D4 := D3.trans (hb4.mono D3.size)
    have D5 := D4.trans (D45.mono D4.size)
    have hH4 := hH3.below hb4
    have hr4 := rows_lt hR4.book (by have := HOK.out.thr; have := may_bounds HOK.out.may; omega)
    have hk4 : ∀ i, Own k i → i < w4.heap.size := hH4.own_lt
    have hkw : ∀ i, Own k i → w.heap.size ≤ i := fun i e => by have := hK i (.inr (.inr e)); have := D2.size; omega
    have hst0 : CAt k r w w4.heap.size c.lay r.w w5 := ⟨⟨hH4.below D45, hR4.below D45, HAS.out⟩, E9, D5⟩
    have H4 := Lib.hid hH4
    have HR4 := Lib.hid hr4
    have NK9 : ¬ Own k w4.heap.size := fun e => by have := hk4 _ e; omega
    have HKW := Lib.hid hkw
    have HS4 := Lib.hid D4.size
    clear hR4 hr4 hk4 hkw hH4 hH3 hK hb1 hb2 hb3 hb4 D0 D2 D3 D4 D45 D5 E2 E9 O9
    go_loopg [10] m (fun gg v10 wr => ∃ i : Nat, v10 = .int .i64 i ∧ i + gg = m ∧ ∃ s p, CAt k r w w4.heap.size s p wr)
    case atStart => exact ⟨0, rfl, by omega, _, _, hst0⟩
    case round =>
      obtain ⟨i, rfl, hi, s, p, hR⟩ := hrel
      clear hst0
      by_cases hlt : i < m
      · obtain ⟨ac1, hac⟩ : ∃ a, l[i]? = some a := ⟨_, List.getElem?_eq_getElem (by rw [← HM.out]; exact hlt)⟩
        obtain ⟨b, o, rfl, lb, n0, n1, n2, n3, n4⟩ := HACT.out wr hR.below _ _ hac
        have HFT := Lib.hid (HFF.out ac1 (List.mem_of_getElem? hac))
        clear hac
        go_wp2_with fail
        have HBd := Lib.hid (hR.both.below ((Below.refl _ wr).drew))
        have T9 : At wr.drew w4.heap.size 45 (RV.cells { r with w := p } s) := hR.t9
        have hDr : Below w.heap.size w wr.drew := hR.below.drew
        generalize hrr : ({ r with w := p } : RV) = rr at *
        refine wp_region_J (l := [_, _, _, _, _, _, _, _]) (CSG 6 [1, 5] (fun j v => match j with | 0 => v = .pointer (some ⟨k.bw, 0, none⟩) | 1 => v = .agg (rr.cells s) | 2 => v = .slice (some ⟨b, o, none⟩) m ac | 3 => v = .int .i64 i | 4 => v = .pointer (some ⟨b, o + i * 5, none⟩) | 5 => v = .agg ac1.c | _ => True) wr.drew (fun v w' => ∃ p' : Sl, v = RV.val { rr with w := p' } (s.act09 ac1) ∧ Both k { rr with w := p' } (s.act09 ac1) w' ∧ Only (Own k) wr.drew w') (fun w' => ∃ (p' : Sl) (w1 : World), Both k { rr with w := p' } (s.act09 ac1) w1 ∧ Only (Own k) wr.drew w1 ∧ At w' w4.heap.size 45 (RV.cells { rr with w := p' } (s.act09 ac1)) ∧ Only (fun j => j = w4.heap.size) w1 w')) (by kernel_rfl) (by kernel_rfl) (fun us => CSG.start us) ⟨?_, ?_, ?_, ?_, ?_, ?_, ?_, ?_, trivial⟩ ?_
        · intro dn us w6 A hev hy hG hdn hdep K hK
          have e0 : A.eval (.tmp 8) = .pointer (some ⟨k.bw, 0, none⟩) := by rw [hev]; rfl
          rw [if_pos (by rfl)]
          unfold Oper.wp execOp
          generalize A.eval = ev at e0 ⊢
          go_simp
          exact hK _ _ (hG.first (by decide) (by first | rfl | (simp; done) | (simp; omega) | (simp; assumption)))
        · intro dn us w6 A hev hy hG hdn hdep K hK
          have e0 : A.eval (.tmp 9) = .pointer (some ⟨w4.heap.size, 0, none⟩) := by rw [hev]; rfl
          have hw6 : w6 = wr.drew := hG.as hdn (by decide)
          subst hw6
          refine step_list (wpl_ld rfl 45 (.tmp 9) rfl (rr.cells s) e0 _ T9 Tryz.underlying45 rfl (by kernel_rfl) rfl ⟨rfl, ?_⟩)
          exact hK _ _ (hG.first (by decide) rfl)
        · intro dn us w6 A hev hy hG hdn hdep K hK
          have e0 : A.eval (.tmp 1) = .slice (some ⟨b, o, none⟩) m ac := by rw [hev]; rfl
          rw [if_pos (by rfl)]
          unfold Oper.wp execOp
          generalize A.eval = ev at e0 ⊢
          go_simp
          exact hK _ _ (hG.first (by decide) (by first | rfl | (simp; done) | (simp; omega) | (simp; assumption)))
        · intro dn us w6 A hev hy hG hdn hdep K hK
          have e0 : A.eval (.tmp 10) = .int .i64 i := by rw [hev]; rfl
          rw [if_pos (by rfl)]
          unfold Oper.wp execOp
          generalize A.eval = ev at e0 ⊢
          go_simp
          exact hK _ _ (hG.first (by decide) (by first | rfl | (simp; done) | (simp; omega) | (simp; assumption)))
        · intro dn us w6 A hev hy hG hdn hdep K hK
          have d2 : dn 2 = true := allD_mem hdep (by decide)
          have d3 : dn 3 = true := allD_mem hdep (by decide)
          have e0 : A.eval (.tmp 35) = .slice (some ⟨b, o, none⟩) m ac := by rw [hev]; exact hG.pre 2 (by decide) d2
          have e1 : A.eval (.tmp 36) = .int .i64 i := by rw [hev]; exact hG.pre 3 (by decide) d3
          rw [if_pos (by rfl)]
          unfold Oper.wp execOp
          generalize A.eval = ev at e0 e1 ⊢
          go_simp
          exact hK _ _ (hG.first (by decide) (by first | rfl | (simp; done) | (simp; omega) | (simp; assumption)))
        · intro dn us w6 A hev hy hG hdn hdep K hK
          have d4 : dn 4 = true := allD_mem hdep (by decide)
          have e0 : A.eval (.tmp 37) = .pointer (some ⟨b, o + i * 5, none⟩) := by rw [hev]; exact hG.pre 4 (by decide) d4
          have hw6 : w6 = wr.drew := hG.as hdn (by decide)
          subst hw6
          rw [if_pos (by rfl)]
          unfold Oper.wp execOp
          generalize A.eval = ev at e0 ⊢
          go_simp
          exact hK _ _ (hG.first (by decide) (by first | rfl | (simp; done) | (simp; omega) | (simp; assumption)))
        · intro dn us w6 A hev hy hG hdn hdep K hK
          have d0 : dn 0 = true := allD_mem hdep (by decide)
          have d1 : dn 1 = true := allD_mem hdep (by decide)
          have d5 : dn 5 = true := allD_mem hdep (by decide)
          have hw6 : w6 = wr.drew := hG.same hdn
          subst hw6
          have e0 : A.eval (.tmp 33) = .pointer (some ⟨k.bw, 0, none⟩) := by rw [hev]; exact hG.pre 0 (by decide) d0
          have e1 : A.eval (.tmp 34) = .agg (rr.cells s) := by rw [hev]; exact hG.pre 1 (by decide) d1
          have e2 : A.eval (.tmp 38) = .agg ac1.c := by rw [hev]; exact hG.pre 5 (by decide) d5
          have ef : A.eval (.func 42) = .func (.func 42) #[] #[] := by rw [hev]; rfl
          rw [if_pos (by rfl)]
          unfold Oper.wp execOp
          generalize A.eval = ev at e0 e1 e2 ef ⊢
          go_simp
          refine (act09_any ac1 wr.drew HBd.out HFT.out).mono ?_
          rintro e wq ⟨p', rfl, hB2, hO2⟩
          refine hK _ _ (hG.called hdn (fun j hj => ?_) (by decide) ⟨p', rfl, hB2, hO2⟩)
          rcases List.mem_cons.1 hj with rfl | hj
          · exact d1
          · rcases List.mem_cons.1 hj with rfl | hj
            · exact d5
            · cases hj
        · intro dn us w6 A hev hy hG hdn hdep K hK
          have d6 : dn 6 = true := allD_mem hdep (by decide)
          obtain ⟨p', u6, hB2, hO2⟩ := hG.call d6 hdn
          have e0 : A.eval (.tmp 9) = .pointer (some ⟨w4.heap.size, 0, none⟩) := by rw [hev]; rfl
          have e1 : A.eval (.tmp 39) = RV.val { rr with w := p' } (s.act09 ac1) := by rw [hev]; exact u6
          refine step_list (wpl_st rfl 45 (.tmp 9) (.tmp 39) rfl (RV.cells { rr with w := p' } (s.act09 ac1)) e0 _ e1 (T9.only hO2 NK9) (by kernel_rfl) rfl rfl rfl fun w7 A7 O7 => ⟨rfl, ?_⟩)
          exact hK _ _ (hG.stored d6 ⟨p', w6, hB2, hO2, A7, O7⟩)
        intro dn us wA hG hall
        obtain ⟨pA, w1, hB1, hO1, T9A, O9A⟩ := hG.st (hall 7 (by decide))
        clear hG hall
        simp only [fillA, fillT, Nat.reduceAdd, List.setIfInBounds_toArray, List.set_cons_zero, List.set_cons_succ]
        subst hrr
        have BA : Both k { r with w := pA } (s.act09 ac1) wA := ⟨Holds.new H4.out hB1.holds O9A fun j e => by have e' : j = w4.heap.size := e; omega, RefIn.box (r0 := r) (W := w4) hB1.ref (words_two hB1.holds.ok) HR4.out (T9.only hO1 NK9) (noTwo_rv _ _) (Nat.le_refl _) O9A, hB1.aside⟩
        have DA : Below w.heap.size w wA := (keep_below hDr hO1 HKW.out).trans (O9A.below (by have := (keep_below hDr hO1 HKW.out).size; omega) fun j hj e => by have e' : j = w4.heap.size := e; have := HS4.out; omega)
        generalize s.act09 ac1 = sA at *
        clear hB1 hO1 O9A T9 hDr hR HBd
        go_wp2_with fail
        go_roundg (m - (i + 1))
        case measure => omega
        case rel => exact ⟨i + 1, rfl, by omega, sA, pA, BA, T9A, DA⟩
      · go_wp2_with fail
        have HHH := Lib.hid hR.both.holds
        have HRR := Lib.hid hR.both.ref
        have T9 := hR.t9
        have DR := hR.below
        obtain ⟨l1, hl1⟩ : ∃ l1, s.chain bk = l1 := ⟨_, rfl⟩
        obtain ⟨l2, hl2⟩ : ∃ l2, s.chain 0 = l2 := ⟨_, rfl⟩
        have hn1 : l1.length ≤ 100000 := by rw [← hl1]; have := chain_len s hR.both.holds.ok.may bk; omega
        have hn2 : l2.length ≤ 100000 := by rw [← hl2]; have := chain_len s hR.both.holds.ok.may 0; omega
        have HL1 := Lib.hid hl1
        have HL2 := Lib.hid hl2
        clear hl1 hl2 hR
        generalize ({ r with w := p } : RV) = rr at *
        refine wp_region_J (l := [_, _, _, _, _, _, _, _, _, _, _, _, _, _, _, _, _, _]) (QV [4, 7] [12, 14] l1 l2 (fun j v => match j with | 0 => v = .bool true | 1 => v = .bool true | 2 => v = .pointer (some ⟨k.bw, 0, none⟩) | 3 => v = .int .i64 bk | 5 => v = .agg (rr.cells s) | 6 => v = .int .i64 bk | 8 => v = .bool true | 9 => v = .bool true | 10 => v = .bool true | 11 => v = .pointer (some ⟨k.bw, 0, none⟩) | 13 => v = .agg (rr.cells s) | 15 => v = .bool true | 16 => v = .bool true | 17 => v = .bool true | _ => True) wr) (by kernel_rfl) (by kernel_rfl) (fun us => QV.start us) ⟨?_, ?_, ?_, ?_, ?_, ?_, ?_, ?_, ?_, ?_, ?_, ?_, ?_, ?_, ?_, ?_, ?_, ?_, trivial⟩ ?_
        · intro dn us w6 A hev hy hG hdn hdep K hK
          have e0 : A.eval (.tmp 7) = .bool true := by rw [hev]; rfl
          rw [if_pos (by rfl)]
          unfold Oper.wp execOp
          generalize A.eval = ev at e0 ⊢
          go_simp
          exact hK _ _ (hG.plain (by decide) (by first | rfl | (simp; done) | (simp; omega) | (simp; assumption)))
        · intro dn us w6 A hev hy hG hdn hdep K hK
          have d0 : dn 0 = true := allD_mem hdep (by decide)
          have e0 : A.eval (.tmp 40) = .bool true := by rw [hev]; exact hG.pre 0 d0
          rw [if_pos (by rfl)]
          unfold Oper.wp execOp
          generalize A.eval = ev at e0 ⊢
          go_simp
          exact hK _ _ (hG.plain (by decide) (by first | rfl | (simp; done) | (simp; omega) | (simp; assumption)))
        · intro dn us w6 A hev hy hG hdn hdep K hK
          have d1 : dn 1 = true := allD_mem hdep (by decide)
          have e0 : A.eval (.tmp 8) = .pointer (some ⟨k.bw, 0, none⟩) := by rw [hev]; rfl
          have hg : us 1 = .bool true := hG.pre 1 d1
          rw [if_pos (by rw [hy]; show ((match us 1 with | .bool b => some b | _ => none) == some true) = true; rw [hg]; rfl)]
          unfold Oper.wp execOp
          generalize A.eval = ev at e0 ⊢
          go_simp
          exact hK _ _ (hG.plain (by decide) (by first | rfl | (simp; done) | (simp; omega) | (simp; assumption)))
        · intro dn us w6 A hev hy hG hdn hdep K hK
          have d1 : dn 1 = true := allD_mem hdep (by decide)
          have e0 : A.eval (.tmp 2) = .int .i64 bk := by rw [hev]; rfl
          have hg : us 1 = .bool true := hG.pre 1 d1
          rw [if_pos (by rw [hy]; show ((match us 1 with | .bool b => some b | _ => none) == some true) = true; rw [hg]; rfl)]
          unfold Oper.wp execOp
          generalize A.eval = ev at e0 ⊢
          go_simp
          exact hK _ _ (hG.plain (by decide) (by first | rfl | (simp; done) | (simp; omega) | (simp; assumption)))
        · intro dn us w6 A hev hy hG hdn hdep K hK
          have d1 : dn 1 = true := allD_mem hdep (by decide)
          have d2 : dn 2 = true := allD_mem hdep (by decide)
          have e0 : A.eval (.tmp 42) = .pointer (some ⟨k.bw, 0, none⟩) := by rw [hev]; exact hG.pre 2 d2
          have d3 : dn 3 = true := allD_mem hdep (by decide)
          have e1 : A.eval (.tmp 43) = .int .i64 bk := by rw [hev]; exact hG.pre 3 d3
          have ef : A.eval (.func 35) = .func (.func 35) #[] #[] := by rw [hev]; rfl
          have hg : us 1 = .bool true := hG.pre 1 d1
          rw [if_pos (by rw [hy]; show ((match us 1 with | .bool b => some b | _ => none) == some true) = true; rw [hg]; rfl)]
          unfold Oper.wp execOp
          generalize A.eval = ev at e0 e1 ef ⊢
          go_simp
          refine (chain_any bk w6 (HHH.out.below hG.below)).mono ?_
          rintro e wq ⟨vq, rfl, hRq, hb⟩
          rw [HL1.out] at hRq
          obtain ⟨aq, cq, rfl, hra⟩ := row_cells (N := fun _ => True) hRq (fun _ _ => trivial)
          exact hK _ _ (hG.put trivial hb (fun _ => ⟨aq, cq, rfl, hra⟩) (fun e => absurd e (by decide)))
        · intro dn us w6 A hev hy hG hdn hdep K hK
          have d1 : dn 1 = true := allD_mem hdep (by decide)
          have e0 : A.eval (.tmp 9) = .pointer (some ⟨w4.heap.size, 0, none⟩) := by rw [hev]; rfl
          have hg : us 1 = .bool true := hG.pre 1 d1
          rw [if_pos (by rw [hy]; show ((match us 1 with | .bool b => some b | _ => none) == some true) = true; rw [hg]; rfl)]
          refine op_ld 45 (.tmp 9) rfl (rr.cells s) e0 _ (T9.below' hG.below) Tryz.underlying45 rfl (by kernel_rfl) (rfl) ?_
          exact hK _ _ (hG.plain (by decide) rfl)
        · intro dn us w6 A hev hy hG hdn hdep K hK
          have d1 : dn 1 = true := allD_mem hdep (by decide)
          have e0 : A.eval (.tmp 2) = .int .i64 bk := by rw [hev]; rfl
          have hg : us 1 = .bool true := hG.pre 1 d1
          rw [if_pos (by rw [hy]; show ((match us 1 with | .bool b => some b | _ => none) == some true) = true; rw [hg]; rfl)]
          unfold Oper.wp execOp
          generalize A.eval = ev at e0 ⊢
          go_simp
          exact hK _ _ (hG.plain (by decide) (by first | rfl | (simp; done) | (simp; omega) | (simp; assumption)))
        · intro dn us w6 A hev hy hG hdn hdep K hK
          have d1 : dn 1 = true := allD_mem hdep (by decide)
          have d5 : dn 5 = true := allD_mem hdep (by decide)
          have e0 : A.eval (.tmp 45) = .agg (rr.cells s) := by rw [hev]; exact hG.pre 5 d5
          have d6 : dn 6 = true := allD_mem hdep (by decide)
          have e1 : A.eval (.tmp 46) = .int .i64 bk := by rw [hev]; exact hG.pre 6 d6
          have ef : A.eval (.func 44) = .func (.func 44) #[] #[] := by rw [hev]; rfl
          have hg : us 1 = .bool true := hG.pre 1 d1
          rw [if_pos (by rw [hy]; show ((match us 1 with | .bool b => some b | _ => none) == some true) = true; rw [hg]; rfl)]
          unfold Oper.wp execOp
          generalize A.eval = ev at e0 e1 ef ⊢
          go_simp
          refine (rchain_any bk w6 (HRR.out.below hG.below) HHH.out.ok).mono ?_
          rintro e wq ⟨vq, rfl, hRq, hb⟩
          rw [HL1.out] at hRq
          obtain ⟨aq, cq, rfl, hra⟩ := row_cells (N := fun _ => True) hRq (fun _ _ => trivial)
          exact hK _ _ (hG.put trivial hb (fun _ => ⟨aq, cq, rfl, hra⟩) (fun e => absurd e (by decide)))
        · intro dn us w6 A hev hy hG hdn hdep K hK
          have d1 : dn 1 = true := allD_mem hdep (by decide)
          have d4 : dn 4 = true := allD_mem hdep (by decide)
          have d7 : dn 7 = true := allD_mem hdep (by decide)
          obtain ⟨a1, c1, u1, m1⟩ := hG.mem1 4 (by decide) d4
          obtain ⟨a2, c2, u2, m2⟩ := hG.mem1 7 (by decide) d7
          have e0 : A.eval (.tmp 44) = .slice a1 l1.length c1 := by rw [hev]; exact u1
          have e1 : A.eval (.tmp 47) = .slice a2 l1.length c2 := by rw [hev]; exact u2
          have ef : A.eval (.func 43) = .func (.func 43) #[] #[] := by rw [hev]; rfl
          have hg : us 1 = .bool true := hG.pre 1 d1
          rw [if_pos (by rw [hy]; show ((match us 1 with | .bool b => some b | _ => none) == some true) = true; rw [hg]; rfl)]
          unfold Oper.wp execOp
          generalize A.eval = ev at e0 e1 ef ⊢
          go_simp
          refine (same01_eq w6 m1 m2 hn1).mono ?_
          rintro e wq ⟨rfl, hb⟩
          exact hK _ _ (hG.quiet (by decide) rfl hb)
        · intro dn us w6 A hev hy hG hdn hdep K hK
          have d1 : dn 1 = true := allD_mem hdep (by decide)
          have d8 : dn 8 = true := allD_mem hdep (by decide)
          have e0 : A.eval (.tmp 41) = .bool true := by rw [hev]; exact hG.pre 1 d1
          have e1 : A.eval (.tmp 48) = .bool true := by rw [hev]; exact hG.pre 8 d8
          have e2 : A.eval (.const (.bool false)) = .bool false := by rw [hev]; rfl
          rw [if_pos (by rfl)]
          unfold Oper.wp execOp
          generalize A.eval = ev at e0 e1 e2 ⊢
          go_simp
          exact hK _ _ (hG.plain (by decide) (by first | rfl | (simp; done) | (simp; omega) | (simp; assumption)))
        · intro dn us w6 A hev hy hG hdn hdep K hK
          have d9 : dn 9 = true := allD_mem hdep (by decide)
          have e0 : A.eval (.tmp 49) = .bool true := by rw [hev]; exact hG.pre 9 d9
          rw [if_pos (by rfl)]
          unfold Oper.wp execOp
          generalize A.eval = ev at e0 ⊢
          go_simp
          exact hK _ _ (hG.plain (by decide) (by first | rfl | (simp; done) | (simp; omega) | (simp; assumption)))
        · intro dn us w6 A hev hy hG hdn hdep K hK
          have d10 : dn 10 = true := allD_mem hdep (by decide)
          have e0 : A.eval (.tmp 8) = .pointer (some ⟨k.bw, 0, none⟩) := by rw [hev]; rfl
          have hg : us 10 = .bool true := hG.pre 10 d10
          rw [if_pos (by rw [hy]; show ((match us 10 with | .bool b => some b | _ => none) == some true) = true; rw [hg]; rfl)]
          unfold Oper.wp execOp
          generalize A.eval = ev at e0 ⊢
          go_simp
          exact hK _ _ (hG.plain (by decide) (by first | rfl | (simp; done) | (simp; omega) | (simp; assumption)))
        · intro dn us w6 A hev hy hG hdn hdep K hK
          have d10 : dn 10 = true := allD_mem hdep (by decide)
          have d11 : dn 11 = true := allD_mem hdep (by decide)
          have e0 : A.eval (.tmp 51) = .pointer (some ⟨k.bw, 0, none⟩) := by rw [hev]; exact hG.pre 11 d11
          have e1 : A.eval (.const (.int .i64 0)) = .int .i64 0 := by rw [hev]; rfl
          have ef : A.eval (.func 35) = .func (.func 35) #[] #[] := by rw [hev]; rfl
          have hg : us 10 = .bool true := hG.pre 10 d10
          rw [if_pos (by rw [hy]; show ((match us 10 with | .bool b => some b | _ => none) == some true) = true; rw [hg]; rfl)]
          unfold Oper.wp execOp
          generalize A.eval = ev at e0 e1 ef ⊢
          go_simp
          refine (chain_any 0 w6 (HHH.out.below hG.below)).mono ?_
          rintro e wq ⟨vq, rfl, hRq, hb⟩
          rw [HL2.out] at hRq
          obtain ⟨aq, cq, rfl, hra⟩ := row_cells (N := fun _ => True) hRq (fun _ _ => trivial)
          exact hK _ _ (hG.put trivial hb (fun e => absurd e (by decide)) (fun _ => ⟨aq, cq, rfl, hra⟩))
        · intro dn us w6 A hev hy hG hdn hdep K hK
          have d10 : dn 10 = true := allD_mem hdep (by decide)
          have e0 : A.eval (.tmp 9) = .pointer (some ⟨w4.heap.size, 0, none⟩) := by rw [hev]; rfl
          have hg : us 10 = .bool true := hG.pre 10 d10
          rw [if_pos (by rw [hy]; show ((match us 10 with | .bool b => some b | _ => none) == some true) = true; rw [hg]; rfl)]
          refine op_ld 45 (.tmp 9) rfl (rr.cells s) e0 _ (T9.below' hG.below) Tryz.underlying45 rfl (by kernel_rfl) (rfl) ?_
          exact hK _ _ (hG.plain (by decide) rfl)
        · intro dn us w6 A hev hy hG hdn hdep K hK
          have d10 : dn 10 = true := allD_mem hdep (by decide)
          have d13 : dn 13 = true := allD_mem hdep (by decide)
          have e0 : A.eval (.tmp 53) = .agg (rr.cells s) := by rw [hev]; exact hG.pre 13 d13
          have e1 : A.eval (.const (.int .i64 0)) = .int .i64 0 := by rw [hev]; rfl
          have ef : A.eval (.func 44) = .func (.func 44) #[] #[] := by rw [hev]; rfl
          have hg : us 10 = .bool true := hG.pre 10 d10
          rw [if_pos (by rw [hy]; show ((match us 10 with | .bool b => some b | _ => none) == some true) = true; rw [hg]; rfl)]
          unfold Oper.wp execOp
          generalize A.eval = ev at e0 e1 ef ⊢
          go_simp
          refine (rchain_any 0 w6 (HRR.out.below hG.below) HHH.out.ok).mono ?_
          rintro e wq ⟨vq, rfl, hRq, hb⟩
          rw [HL2.out] at hRq
          obtain ⟨aq, cq, rfl, hra⟩ := row_cells (N := fun _ => True) hRq (fun _ _ => trivial)
          exact hK _ _ (hG.put trivial hb (fun e => absurd e (by decide)) (fun _ => ⟨aq, cq, rfl, hra⟩))
        · intro dn us w6 A hev hy hG hdn hdep K hK
          have d10 : dn 10 = true := allD_mem hdep (by decide)
          have d12 : dn 12 = true := allD_mem hdep (by decide)
          have d14 : dn 14 = true := allD_mem hdep (by decide)
          obtain ⟨a1, c1, u1, m1⟩ := hG.mem2 12 (by decide) d12
          obtain ⟨a2, c2, u2, m2⟩ := hG.mem2 14 (by decide) d14
          have e0 : A.eval (.tmp 52) = .slice a1 l2.length c1 := by rw [hev]; exact u1
          have e1 : A.eval (.tmp 54) = .slice a2 l2.length c2 := by rw [hev]; exact u2
          have ef : A.eval (.func 43) = .func (.func 43) #[] #[] := by rw [hev]; rfl
          have hg : us 10 = .bool true := hG.pre 10 d10
          rw [if_pos (by rw [hy]; show ((match us 10 with | .bool b => some b | _ => none) == some true) = true; rw [hg]; rfl)]
          unfold Oper.wp execOp
          generalize A.eval = ev at e0 e1 ef ⊢
          go_simp
          refine (same01_eq w6 m1 m2 hn2).mono ?_
          rintro e wq ⟨rfl, hb⟩
          exact hK _ _ (hG.quiet (by decide) rfl hb)
        · intro dn us w6 A hev hy hG hdn hdep K hK
          have d10 : dn 10 = true := allD_mem hdep (by decide)
          have d15 : dn 15 = true := allD_mem hdep (by decide)
          have e0 : A.eval (.tmp 50) = .bool true := by rw [hev]; exact hG.pre 10 d10
          have e1 : A.eval (.tmp 55) = .bool true := by rw [hev]; exact hG.pre 15 d15
          have e2 : A.eval (.const (.bool false)) = .bool false := by rw [hev]; rfl
          rw [if_pos (by rfl)]
          unfold Oper.wp execOp
          generalize A.eval = ev at e0 e1 e2 ⊢
          go_simp
          exact hK _ _ (hG.plain (by decide) (by first | rfl | (simp; done) | (simp; omega) | (simp; assumption)))
        · intro dn us w6 A hev hy hG hdn hdep K hK
          have d16 : dn 16 = true := allD_mem hdep (by decide)
          have e0 : A.eval (.tmp 56) = .bool true := by rw [hev]; exact hG.pre 16 d16
          rw [if_pos (by rfl)]
          unfold Oper.wp execOp
          generalize A.eval = ev at e0 ⊢
          go_simp
          exact hK _ _ (hG.plain (by decide) (by first | rfl | (simp; done) | (simp; omega) | (simp; assumption)))
        intro dn us wA hG hall
        have u17 : us 17 = .bool true := hG.pre 17 (hall 17 (by decide))
        have DA := hG.below
        simp only [fillA, fillT, Nat.reduceAdd, List.setIfInBounds_toArray, List.set_cons_zero, List.set_cons_succ, u17]
        clear hG hall u17
        go_wp2_with fail
        go_ret
        exact ⟨rfl, DR.trans (DA.mono DR.size)⟩
end Go.Proofs.YtccmjljlfgbicaaGreat

/- LookChain returns true for every scene, list of acts and bucket: look.Chain gives the nodes that the document gives, behind whatever was laid. No condition. -/
namespace Go.Proofs.YtccmjljlfgbicaaGreat.lookChain
open Go.ChangeShapes Go.WideShapes Go.ChangeAt Go.RowKit
set_option linter.unusedVariables false

theorem own : ownKnob Tryz.prog.godebug = none := by kernel_rfl
theorem laidOut : laidOutB Tryz.prog = true := by kernel_rfl

set_option maxRecDepth 100000 in
theorem lifted (os : Os) (started : os.Started) (H : Type) (enc : TypeId × Value → H) :
    ReturnsInHanded {} Tryz.checked os 8 .any (Rows.lookChainSpec.pre6 enc Tryz.prog Tryz.f8 Rows.lookChainRow.domain false) (Rows.lookChainSpec.post enc Tryz.prog Tryz.f8 false true false false) := by
  refine returnsInHanded_of_change (C := Tryz.checked) own started (by kernel_rfl) Tryz.func8
    (ChangeSpec.witness6 (enc := enc) (C := Tryz.checked) false ⟨#[], #[.agg #[.int .u8 0, .slice none 0 0, .slice none 0 0], .slice none 0 0, .int .i64 0], []⟩ 12 (by kernel_rfl) (by kernel_rfl) (by kernel_rfl) (by kernel_rfl)) ?_
  intro W base args ds gs before hval0 hW hcnd _
  have hval : ∀ (j : Nat) t v, Tryz.f8.params[j]? = some t → args[j]? = some v → Value.okWide Tryz.prog W .any base t v := hval0
  have hW' := hW
  obtain ⟨p, q, hA0, hV, rfl, hfz, hnd⟩ := hW
  have hA : DataW.TrodAll enc Tryz.prog W 0 (fun _ => true) true Tryz.f8.params.toList args.toList ds p := hA0
  rw [Tryz.params8] at hA hval
  obtain ⟨v0, vs0, d0, ds0, p0, q0, hargs, rfl, rfl, h0, r0⟩ := trodAll_cons hA
  obtain ⟨v1, vs1, d1, ds1, p1, q1, rfl, rfl, rfl, h1, r1⟩ := trodAll_cons r0
  obtain ⟨v2, vs2, d2, ds2, p2, q2, rfl, rfl, rfl, h2, r2⟩ := trodAll_cons r1
  obtain ⟨rfl, rfl, rfl⟩ := trodAll_nil r2
  obtain rfl : args = #[v0, v1, v2] := by cases args; simp_all
  obtain ⟨rfl, rfl⟩ := trodVars_none hV
  obtain ⟨c0, ia0, ca0, ic0, cc0, hS0, hx0⟩ := open_scene (hval 0 _ v0 rfl rfl) h0
  obtain ⟨ao1, l1, ac1, rfl, hR1, hf1⟩ := open_acts_arg (hval 1 _ v1 rfl rfl) h1
  obtain ⟨a2, rfl, rfl, rfl, w2⟩ := open_int Tryz.underlying3 (hval 2 _ v2 rfl rfl) h2
  clear hA0 hval0
  simp only [List.append_nil] at hW'
  refine (lookchain_walk a2 W hx0 hS0 hR1 hf1).mono fun e W' ⟨he, hb⟩ => ?_
  subst he
  have hlt : ∀ y ∈ p0 ++ (p1), y.block < W.heap.size := fun y hy => by simpa using hW'.lt y (by simpa using hy)
  exact ⟨_, rfl, post_new hW' hb (fun _ _ _ => trodAll_cons_mk (shut_bool Tryz.underlying4 _) trodAll_mk0)
    (fun sp hsp => by
      have := (trodAll_cons_mk (WideElems.Trod_stays laidOut (by kernel_rfl) (of_decide_eq_true (by kernel_rfl)) h0 (fun y hy => hb.same (hlt y (List.mem_append_left _ hy))) (fun y hy => hsp y (List.mem_append_left _ hy))) (trodAll_cons_mk (WideElems.Trod_stays laidOut (by kernel_rfl) (of_decide_eq_true (by kernel_rfl)) h1 (fun y hy => hb.same (hlt y (List.mem_append_right _ hy))) (fun y hy => hsp y (List.mem_append_right _ hy))) (trodAll_cons_mk (shut_int Tryz.underlying3 w2) trodAll_mk0)))
      simp only [List.append_nil] at this
      exact this)
    (fun _ => rfl) (ok_one (by kernel_rfl) rfl (okWide_bool_mk Tryz.underlying4 _))⟩

theorem over : Rows.lookChainRow.holds Tryz.pinned (OpenSpec.ofChange Rows.lookChainSpec) :=
  OpenClaim.holds_of_wide 8 Tryz.f8 rfl rfl rfl rfl rfl rfl rfl ⟨rfl, rfl, rfl, rfl, rfl⟩ rfl rfl rfl rfl rfl (by kernel_rfl) Tryz.func8 (by kernel_rfl)
    (of_decide_eq_true (by kernel_rfl)) (by unfold Func.isWrapper; first | (rw [if_pos (by decide +kernel)]; kernel_rfl) | (rw [if_neg (by decide +kernel)]; exact ⟨rfl, rfl⟩))
    (fun os started H enc _ => lifted os started H enc)

theorem proved : Rows.LookChainSaid :=
  over
#print axioms proved
end Go.Proofs.YtccmjljlfgbicaaGreat.lookChain

