/- Regions that draw their order and turn nothing that was: pure operations, guarded ones, calls that make memory; what each yields is told. -/
import Derived.Test.YtccmjljlfgbicaaGreatReg
import Derived.Test.YtccmjljlfgbicaaGreatMin
import Derived.Test.YtccmjljlfgbicaaGreatSt
namespace Go.Proofs.YtccmjljlfgbicaaGreat
open Go.ChangeShapes Go.WideShapes Go.ChangeAt Go.RowKit

structure QG (F : Nat → Value → Prop) (W : World) (dn : Nat → Bool) (us : Nat → Value) (w : World) : Prop where
  below : Below W.heap.size W w
  pre : ∀ j, dn j = true → F j (us j)
section
variable {F : Nat → Value → Prop} {W w w' : World} {dn : Nat → Bool} {us : Nat → Value}
theorem QG.start (us : Nat → Value) : QG F W (fun _ => false) us W.drew := ⟨(Below.refl _ W).drew, fun _ e => (by cases e)⟩
theorem QG.called (h : QG F W dn us w) {i : Nat} {v : Value} (hv : F i v) (hb : Below w.heap.size w w') : QG F W (updB dn i) (updN us i v) w' :=
  ⟨h.below.trans (hb.mono h.below.size), fun j e => by
    by_cases q : j = i
    · subst q; rw [updN_eq]; exact hv
    · rw [updB_ne q] at e; rw [updN_ne q]; exact h.pre j e⟩
theorem QG.first (h : QG F W dn us w) {i : Nat} {v : Value} (hv : F i v) : QG F W (updB dn i) (updN us i v) w := h.called hv (Below.refl _ _)
end
/-- What is kept where operations ahead of number m yield what is told, number m is a call that turns the world, and the next one lays what it handed back; L: those ahead that read memory. -/
structure CSG (m : Nat) (L : List Nat) (F : Nat → Value → Prop) (W : World) (R : Value → World → Prop) (S : World → Prop) (dn : Nat → Bool) (us : Nat → Value) (w : World) : Prop where
  same : dn m = false → w = W
  all : dn m = true → ∀ j ∈ L, dn j = true
  ord : dn (m + 1) = true → dn m = true
  pre : ∀ j, j < m → dn j = true → F j (us j)
  call : dn m = true → dn (m + 1) = false → R (us m) w
  st : dn (m + 1) = true → S w
section
variable {m : Nat} {L : List Nat} {F : Nat → Value → Prop} {W w w' : World} {R : Value → World → Prop} {S : World → Prop} {dn : Nat → Bool} {us : Nat → Value}
theorem CSG.start (us : Nat → Value) : CSG m L F W R S (fun _ => false) us W :=
  ⟨fun _ => rfl, fun e => (by cases e), fun e => (by cases e), fun _ _ e => (by cases e), fun e => (by cases e), fun e => (by cases e)⟩
theorem CSG.first (h : CSG m L F W R S dn us w) {i : Nat} {v : Value} (hi : i < m) (hv : F i v) : CSG m L F W R S (updB dn i) (updN us i v) w := by
  refine ⟨fun e => ?_, fun e j hj => ?_, fun e => ?_, fun j hj e => ?_, fun e1 e2 => ?_, fun e => ?_⟩
  · rw [updB_ne (by omega)] at e; exact h.same e
  · rw [updB_ne (by omega)] at e
    by_cases q : j = i
    · subst q; exact updB_eq
    · rw [updB_ne q]; exact h.all e j hj
  · rw [updB_ne (by omega)] at e ⊢; exact h.ord e
  · by_cases q : j = i
    · subst q; rw [updN_eq]; exact hv
    · rw [updB_ne q] at e; rw [updN_ne q]; exact h.pre j hj e
  · rw [updB_ne (by omega)] at e1 e2; rw [updN_ne (by omega)]; exact h.call e1 e2
  · rw [updB_ne (by omega)] at e; exact h.st e
/-- One that reads memory finds the world as it was. -/
theorem CSG.as (h : CSG m L F W R S dn us w) {i : Nat} (hd : dn i = false) (hi : i ∈ L) : w = W := by
  refine h.same ?_
  cases q : dn m with
  | false => rfl
  | true => have := h.all q i hi; rw [hd] at this; cases this
theorem CSG.called (h : CSG m L F W R S dn us w) (hd : dn m = false) (ha : ∀ j ∈ L, dn j = true) (hL : m ∉ L) {v : Value} (hv : R v w') : CSG m L F W R S (updB dn m) (updN us m v) w' := by
  refine ⟨fun e => (by rw [updB_eq] at e; cases e), fun _ j hj => ?_, fun _ => updB_eq, fun j hj e => ?_, fun _ _ => by rw [updN_eq]; exact hv, fun e => ?_⟩
  · by_cases q : j = m
    · subst q; exact (hL hj).elim
    · rw [updB_ne q]; exact ha j hj
  · rw [updB_ne (by omega)] at e; rw [updN_ne (by omega)]; exact h.pre j hj e
  · rw [updB_ne (by omega)] at e; have := h.ord e; rw [hd] at this; cases this
theorem CSG.stored (h : CSG m L F W R S dn us w) (hd : dn m = true) {v : Value} (hs : S w') : CSG m L F W R S (updB dn (m + 1)) (updN us (m + 1) v) w' := by
  refine ⟨fun e => (by rw [updB_ne (by omega), hd] at e; cases e), fun _ j hj => ?_, fun _ => by rw [updB_ne (by omega)]; exact hd, fun j hj e => ?_, fun _ e => (by rw [updB_eq] at e; cases e), fun _ => hs⟩
  · by_cases q : j = m + 1
    · subst q; exact updB_eq
    · rw [updB_ne q]; exact h.all hd j hj
  · rw [updB_ne (by omega)] at e; rw [updN_ne (by omega)]; exact h.pre j hj e
end
section
variable {P : Program} {o : Oper} {a : Act} {w : World} {K : Act → World → Prop} {Q : Exit → Act → World → Prop}
/-- A struct is read out of a block, in an obligation. -/
theorem op_ld (ty : TypeId) (x : Operand) (ho : o.op = .load ty x) {g i : Nat} {t : TypeId} {cs : Array Value} (vs : Array Value) (hx : a.eval x = .pointer (some ⟨g, i, none⟩)) (d : TypeDesc) (hA : At w g t cs)
    (hu : P.underlying ty = some d) (hd : (match d with | .struct _ | .array _ _ => true | _ => false) = true) (hi : (P.info? ty).map (·.size) = some vs.size) (hvs : (cs.toList.drop i).take vs.size = vs.toList)
    (h : K (a.put o.dst (.agg vs)) w) : Oper.wp P o a w K Q := by
  have hl : (loadCells ⟨g, i, none⟩ vs.toList.length).run P w = .ok vs.toList.toArray w :=
    run_loadCells_list (P := P) w ⟨g, i, none⟩ vs.toList (fun j v hv => by
      have hadd : (⟨g, i, none⟩ : Addr).add j = ⟨g, i + j, none⟩ := Addr.add_lit _ _ _
      have hj : j < vs.toList.length := (List.getElem?_eq_some_iff.1 hv).1
      rw [Array.length_toList] at hj
      rw [hadd, hA.cell]
      rw [← hvs, List.getElem?_take_of_lt hj, List.getElem?_drop] at hv
      rwa [Array.getElem?_toList] at hv)
  have hs : (loadVar ty ⟨g, i, none⟩).run P w = .ok (.agg vs) w := by
    cases hq : P.info? ty with
    | none => simp [hq] at hi
    | some inf =>
      have hsz : inf.size = vs.size := by simpa [hq] using hi
      have hagg : (isAgg ty).run P w = .ok true w := by
        unfold isAgg
        rw [Sem.run_bind, run_underlying hu w]
        cases d <;> simp_all
      simp only [Array.length_toList, Array.toArray_toList] at hl
      simp [loadVar, Sem.run_bind, hagg, sizeOf, typeInfo, hq, hsz, hl]
  unfold Oper.wp execOp
  simp only [ho, hx, Instr.loadAt, Instr.sureAddr, Sem.run_bind, Sem.run_pure, Result.andThen_ok, hs]
  exact h
end
end Go.Proofs.YtccmjljlfgbicaaGreat
