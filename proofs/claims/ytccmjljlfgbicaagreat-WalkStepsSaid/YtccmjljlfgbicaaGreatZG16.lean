/- Facts of a laid scene and of a walk's step that the laws of chapter 10 want. Plain. -/
import Derived.Test.YtccmjljlfgbicaaGreatZLayR
import Derived.Test.YtccmjljlfgbicaaGreatZWalkE
import Derived.Test.YtccmjljlfgbicaaGreatZG15
import Derived.Test.YtccmjljlfgbicaaGreatZEnds
import Derived.Test.YtccmjljlfgbicaaGreatZG12
import Derived.Test.YtccmjljlfgbicaaGreatZG13
import Derived.Test.YtccmjljlfgbicaaGreatZG11
namespace Go.Proofs.YtccmjljlfgbicaaGreat
open Go.ChangeShapes Go.WideShapes Go.ChangeAt Go.RowKit

theorem ws_arrive (s : St) (x : Walk) (n : Int) : (s.arrive x n).key = x.key ∧ (s.arrive x n).mode = x.mode := by
  unfold St.arrive; split <;> exact ⟨rfl, rfl⟩
/-- A walk's step leaves its key and mode, and the book. -/
theorem walk_book (s : St) (x : Walk) : (s.walkStep x).2.key = x.key ∧ (s.walkStep x).2.mode = x.mode ∧ (s.walkStep x).1.c = s.c ∧ (s.walkStep x).1.ops = s.ops ∧ (s.walkStep x).1.nodes = s.nodes ∧ (s.walkStep x).1.thr = s.thr := by
  unfold St.walkStep
  split; · exact ⟨rfl, rfl, rfl, rfl, rfl, rfl⟩
  split; · exact ⟨rfl, rfl, rfl, rfl, rfl, rfl⟩
  split
  · unfold St.walkBegin
    exact ⟨(ws_arrive _ _ _).1, (ws_arrive _ _ _).2, rfl, rfl, rfl, rfl⟩
  split; · exact ⟨rfl, rfl, rfl, rfl, rfl, rfl⟩
  split
  · unfold St.walkUnlink
    dsimp only
    split
    · exact ⟨(ws_arrive _ _ _).1, (ws_arrive _ _ _).2, rfl, rfl, rfl, rfl⟩
    · exact ⟨rfl, rfl, rfl, rfl, rfl, rfl⟩
  split
  · unfold St.walkJudge St.judged St.advance
    dsimp only
    repeat' split
    all_goals first | exact ⟨rfl, rfl, rfl, rfl, rfl, rfl⟩ | exact ⟨(ws_arrive _ _ _).1, (ws_arrive _ _ _).2, rfl, rfl, rfl, rfl⟩
  split; · exact ⟨rfl, rfl, rfl, rfl, rfl, rfl⟩
  split
  · unfold St.walkAgain
    dsimp only
    split <;> exact ⟨rfl, rfl, rfl, rfl, rfl, rfl⟩
  split <;> exact ⟨rfl, rfl, rfl, rfl, rfl, rfl⟩

theorem layItem_len (p : St × Int × Int) (i : GItem) : (layItem p i).1.ops.length ≤ p.1.ops.length + 1 ∧ (layItem p i).1.nodes.length ≤ p.1.nodes.length + 1 := by
  have h1 : ∀ (s : St) (op : Int), (s.layOp op i).1.ops.length ≤ s.ops.length + 1 ∧ (s.layOp op i).1.nodes = s.nodes := by
    intro s op
    unfold St.layOp
    split
    · exact ⟨by simp, rfl⟩
    · exact ⟨ops_begin s 0 ⟨1, i.key, i.val, 0⟩, (begin_same s 0 ⟨1, i.key, i.val, 0⟩).2.2.1⟩
  have h2 : ∀ (s : St) (at_ op : Int), (s.layNode at_ op i.mark).1.ops = s.ops ∧ (s.layNode at_ op i.mark).1.nodes.length ≤ s.nodes.length + 1 := by
    intro s at_ op
    exact ⟨(make_same s 0 op).2.2.1, nodes_make s 0 op⟩
  unfold layItem
  have a := h1 p.1 p.2.2
  have b := h2 (p.1.layOp p.2.2 i).1 p.2.1 (p.1.layOp p.2.2 i).2
  refine ⟨?_, ?_⟩
  · show ((p.1.layOp p.2.2 i).1.layNode p.2.1 (p.1.layOp p.2.2 i).2 i.mark).1.ops.length ≤ _
    rw [b.1]; exact a.1
  · have := b.2
    rw [a.2] at this
    exact this
theorem layItems_len : ∀ (l : List GItem) (p : St × Int × Int), (l.foldl layItem p).1.ops.length ≤ p.1.ops.length + l.length ∧ (l.foldl layItem p).1.nodes.length ≤ p.1.nodes.length + l.length
  | [], p => ⟨by simp, by simp⟩
  | i :: l, p => by
    have a := layItem_len p i
    have b := layItems_len l (layItem p i)
    simp only [List.foldl_cons, List.length_cons]
    omega
theorem layCalls_len : ∀ (l : List GCall) (s : St), (s.layCalls l).ops.length ≤ s.ops.length + l.length ∧ (s.layCalls l).nodes = s.nodes
  | [], s => ⟨by simp [St.layCalls], rfl⟩
  | c :: l, s => by
    have a := ops_begin s 2 c
    have a2 := (begin_same s 2 c).2.2.1
    have b := layCalls_len l (s.begin 2 c).1
    show ((s.begin 2 c).1.layCalls l).ops.length ≤ _ ∧ ((s.begin 2 c).1.layCalls l).nodes = _
    simp only [List.length_cons]
    refine ⟨by omega, b.2.trans a2⟩
theorem lay_sized {x : Scene} (hl : x.items.length ≤ 12) (hc : x.calls.length ≤ 6) : x.lay.ops.length ≤ 18 ∧ x.lay.nodes.length ≤ 12 := by
  have a := layItems_len x.sorted (St.new x.conf, 1, 0)
  have b := layCalls_len x.calls ((St.new x.conf).layItems x.sorted).1
  rw [sorted_len] at a
  have c1 : (St.new x.conf).ops.length = 0 := rfl
  have c2 : (St.new x.conf).nodes.length = 0 := rfl
  have a1 : ((St.new x.conf).layItems x.sorted).1.ops.length ≤ (St.new x.conf).ops.length + x.items.length := a.1
  have a2 : ((St.new x.conf).layItems x.sorted).1.nodes.length ≤ (St.new x.conf).nodes.length + x.items.length := a.2
  have b1 : x.lay.ops.length ≤ _ := b.1
  have b2 : x.lay.nodes = _ := b.2
  rw [b2]
  omega
/-- Where the document's answer lies that was laid behind a world. -/
theorem aside_of {k : Blks} {r : RV} {s : St} {w : World} (h : Holds k s w) (hr : RowsOff r (fun j => j < w.heap.size)) (hw : ∀ b o, r.w.1 = some ⟨b, o, none⟩ → ¬ b < w.heap.size) : Aside k r :=
  ⟨hr.imp fun b e => h.own_lt b e, fun b o e k => hw b o e (h.own_lt b k)⟩
theorem RefOut.both {k : Blks} {r : RV} {s s1 : St} {w w1 w2 : World} {f : Value → Value} {e : Ending} (hB : Both k r s w) (hH : Holds k s1 w1) (hO : Only (Own k) w w1) (h1 : s1.thr = s.thr) (h2 : s1.ops = s.ops) (h3 : s1.nodes = s.nodes) (hr : RefOut w1 r f s1 e w2) :
    ∃ p' : Sl, e = .returned (f (RV.val { r with w := p' } s1)) ∧ Both k { r with w := p' } s1 w2 ∧ Below w1.heap.size w1 w2 := by
  obtain ⟨p', a, b, c, d⟩ := hr
  exact ⟨p', a, hB.step hH hO b c d (((hB.ref.book.only hO hB.aside.rows).below c).other h1 h2 h3 p'), c⟩
end Go.Proofs.YtccmjljlfgbicaaGreat

/- Regions that draw their order and turn nothing that was: pure operations, guarded ones, calls that make memory; what each yields is told. -/
namespace Go.Proofs.YtccmjljlfgbicaaGreat
open Go.ChangeShapes Go.WideShapes Go.ChangeAt Go.RowKit

structure QG (F : Nat → Value → Prop) (W : World) (dn : Nat → Bool) (us : Nat → Value) (w : World) : Prop where
  below : Below W.heap.size W w
  pre : ∀ j, dn j = true → F j (us j)
section
variable {F : Nat → Value → Prop} {W w w' : World} {dn : Nat → Bool} {us : Nat → Value}
theorem QG.start (us : Nat → Value) : QG F W (fun _ => false) us W.drew := ⟨(Below.refl _ W).drew, fun _ e => (by cases e)⟩
theorem QG.called (h : QG F W dn us w) {i : Nat} {v : Value} (hv : F i v) (hb : Below w.heap.size w w') : QG F W (updB dn i) (updN us i v) w' :=
  ⟨h.below.trans (hb.mono h.below.size), fun j e => by
    by_cases q : j = i
    · subst q; rw [updN_eq]; exact hv
    · rw [updB_ne q] at e; rw [updN_ne q]; exact h.pre j e⟩
theorem QG.first (h : QG F W dn us w) {i : Nat} {v : Value} (hv : F i v) : QG F W (updB dn i) (updN us i v) w := h.called hv (Below.refl _ _)
end
/-- What is kept where operations ahead of number m yield what is told, number m is a call that turns the world, and the next one lays what it handed back; L: those ahead that read memory. -/
structure CSG (m : Nat) (L : List Nat) (F : Nat → Value → Prop) (W : World) (R : Value → World → Prop) (S : World → Prop) (dn : Nat → Bool) (us : Nat → Value) (w : World) : Prop where
  same : dn m = false → w = W
  all : dn m = true → ∀ j ∈ L, dn j = true
  ord : dn (m + 1) = true → dn m = true
  pre : ∀ j, j < m → dn j = true → F j (us j)
  call : dn m = true → dn (m + 1) = false → R (us m) w
  st : dn (m + 1) = true → S w
section
variable {m : Nat} {L : List Nat} {F : Nat → Value → Prop} {W w w' : World} {R : Value → World → Prop} {S : World → Prop} {dn : Nat → Bool} {us : Nat → Value}
theorem CSG.start (us : Nat → Value) : CSG m L F W R S (fun _ => false) us W :=
  ⟨fun _ => rfl, fun e => (by cases e), fun e => (by cases e), fun _ _ e => (by cases e), fun e => (by cases e), fun e => (by cases e)⟩
theorem CSG.first (h : CSG m L F W R S dn us w) {i : Nat} {v : Value} (hi : i < m) (hv : F i v) : CSG m L F W R S (updB dn i) (updN us i v) w := by
  refine ⟨fun e => ?_, fun e j hj => ?_, fun e => ?_, fun j hj e => ?_, fun e1 e2 => ?_, fun e => ?_⟩
  · rw [updB_ne (by omega)] at e; exact h.same e
  · rw [updB_ne (by omega)] at e
    by_cases q : j = i
    · subst q; exact updB_eq
    · rw [updB_ne q]; exact h.all e j hj
  · rw [updB_ne (by omega)] at e ⊢; exact h.ord e
  · by_cases q : j = i
    · subst q; rw [updN_eq]; exact hv
    · rw [updB_ne q] at e; rw [updN_ne q]; exact h.pre j hj e
  · rw [updB_ne (by omega)] at e1 e2; rw [updN_ne (by omega)]; exact h.call e1 e2
  · rw [updB_ne (by omega)] at e; exact h.st e
/-- One that reads memory finds the world as it was. -/
theorem CSG.as (h : CSG m L F W R S dn us w) {i : Nat} (hd : dn i = false) (hi : i ∈ L) : w = W := by
  refine h.same ?_
  cases q : dn m with
  | false => rfl
  | true => have := h.all q i hi; rw [hd] at this; cases this
theorem CSG.called (h : CSG m L F W R S dn us w) (hd : dn m = false) (ha : ∀ j ∈ L, dn j = true) (hL : m ∉ L) {v : Value} (hv : R v w') : CSG m L F W R S (updB dn m) (updN us m v) w' := by
  refine ⟨fun e => (by rw [updB_eq] at e; cases e), fun _ j hj => ?_, fun _ => updB_eq, fun j hj e => ?_, fun _ _ => by rw [updN_eq]; exact hv, fun e => ?_⟩
  · by_cases q : j = m
    · subst q; exact (hL hj).elim
    · rw [updB_ne q]; exact ha j hj
  · rw [updB_ne (by omega)] at e; rw [updN_ne (by omega)]; exact h.pre j hj e
  · rw [updB_ne (by omega)] at e; have := h.ord e; rw [hd] at this; cases this
theorem CSG.stored (h : CSG m L F W R S dn us w) (hd : dn m = true) {v : Value} (hs : S w') : CSG m L F W R S (updB dn (m + 1)) (updN us (m + 1) v) w' := by
  refine ⟨fun e => (by rw [updB_ne (by omega), hd] at e; cases e), fun _ j hj => ?_, fun _ => by rw [updB_ne (by omega)]; exact hd, fun j hj e => ?_, fun _ e => (by rw [updB_eq] at e; cases e), fun _ => hs⟩
  · by_cases q : j = m + 1
    · subst q; exact updB_eq
    · rw [updB_ne q]; exact h.all hd j hj
  · rw [updB_ne (by omega)] at e; rw [updN_ne (by omega)]; exact h.pre j hj e
end
section
variable {P : Program} {o : Oper} {a : Act} {w : World} {K : Act → World → Prop} {Q : Exit → Act → World → Prop}
/-- A struct is read out of a block, in an obligation. -/
theorem op_ld (ty : TypeId) (x : Operand) (ho : o.op = .load ty x) {g i : Nat} {t : TypeId} {cs : Array Value} (vs : Array Value) (hx : a.eval x = .pointer (some ⟨g, i, none⟩)) (d : TypeDesc) (hA : At w g t cs)
    (hu : P.underlying ty = some d) (hd : (match d with | .struct _ | .array _ _ => true | _ => false) = true) (hi : (P.info? ty).map (·.size) = some vs.size) (hvs : (cs.toList.drop i).take vs.size = vs.toList)
    (h : K (a.put o.dst (.agg vs)) w) : Oper.wp P o a w K Q := by
  have hl : (loadCells ⟨g, i, none⟩ vs.toList.length).run P w = .ok vs.toList.toArray w :=
    run_loadCells_list (P := P) w ⟨g, i, none⟩ vs.toList (fun j v hv => by
      have hadd : (⟨g, i, none⟩ : Addr).add j = ⟨g, i + j, none⟩ := Addr.add_lit _ _ _
      have hj : j < vs.toList.length := (List.getElem?_eq_some_iff.1 hv).1
      rw [Array.length_toList] at hj
      rw [hadd, hA.cell]
      rw [← hvs, List.getElem?_take_of_lt hj, List.getElem?_drop] at hv
      rwa [Array.getElem?_toList] at hv)
  have hs : (loadVar ty ⟨g, i, none⟩).run P w = .ok (.agg vs) w := by
    cases hq : P.info? ty with
    | none => simp [hq] at hi
    | some inf =>
      have hsz : inf.size = vs.size := by simpa [hq] using hi
      have hagg : (isAgg ty).run P w = .ok true w := by
        unfold isAgg
        rw [Sem.run_bind, run_underlying hu w]
        cases d <;> simp_all
      simp only [Array.length_toList, Array.toArray_toList] at hl
      simp [loadVar, Sem.run_bind, hagg, sizeOf, typeInfo, hq, hsz, hl]
  unfold Oper.wp execOp
  simp only [ho, hx, Instr.loadAt, Instr.sureAddr, Sem.run_bind, Sem.run_pure, Result.andThen_ok, hs]
  exact h
end
end Go.Proofs.YtccmjljlfgbicaaGreat

