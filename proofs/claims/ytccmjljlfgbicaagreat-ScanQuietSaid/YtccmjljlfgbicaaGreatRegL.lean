/- Regions that draw their order, of which the last operation turns the world; what each yields is told of the world too. -/
import Derived.Test.YtccmjljlfgbicaaGreatRegQ
namespace Go.Proofs.YtccmjljlfgbicaaGreat
open Go.ChangeShapes Go.WideShapes Go.ChangeAt Go.RowKit

/-- What an operation comes behind. -/
def depsOf (l : List Oper) (j : Nat) : List Nat := match l[j]? with | some o => o.after.toList.filterMap (fun e => if Region.binds .any e then some e.on else none) | none => []
abbrev Shut (l : List Oper) (dn : Nat → Bool) : Prop := ∀ j, dn j = true → AllD dn (depsOf l j)
theorem allD_upd {dn : Nat → Bool} {i : Nat} : ∀ {r : List Nat}, AllD dn r → AllD (updB dn i) r
  | [], _ => trivial
  | j :: r, h => ⟨by by_cases q : j = i; (subst q; exact updB_eq); (rw [updB_ne q]; exact h.1), allD_upd h.2⟩
/-- One operation's obligation, where all that is done is known to be done behind what it comes behind. -/
def ObC (P : Program) (l : List Oper) (Q : Exit → Act → World → Prop) (a : Act) (G : (Nat → Bool) → (Nat → Value) → World → Prop) (i : Nat) (o : Oper) : Prop :=
  ∀ (dn : Nat → Bool) (us : Nat → Value) (w : World) (A : Act), A.eval = evF l us a → yielded l.toArray A.tmps = yF l us a → G dn us w → Shut l dn → dn i = false → AllD dn (o.after.toList.filterMap fun e => if Region.binds .any e then some e.on else none) →
    ∀ K : Act → World → Prop, (∀ v w', G (updB dn i) (updN us i v) w' → K (A.put o.dst v) w') → if Region.wanted o (yielded l.toArray A.tmps) = true then Oper.wp P o A w K Q else K (A.put o.dst undef) w
def EachC (P : Program) (l : List Oper) (Q : Exit → Act → World → Prop) (a : Act) (G : (Nat → Bool) → (Nat → Value) → World → Prop) : List Oper → Nat → Prop
  | [], _ => True
  | o :: r, i => ObC P l Q a G i o ∧ EachC P l Q a G r (i + 1)
theorem EachC.toJ {P : Program} {l : List Oper} {Q : Exit → Act → World → Prop} {a : Act} {G : (Nat → Bool) → (Nat → Value) → World → Prop} : ∀ {r : List Oper} {k : Nat}, (∀ j o, r[j]? = some o → l[k + j]? = some o) → EachC P l Q a G r k → EachJ P l Q a (fun dn us w => G dn us w ∧ Shut l dn) r k
  | [], _, _, _ => trivial
  | o :: r, k, hl, h => by
    refine ⟨?_, EachC.toJ (fun j o' e => by have := hl (j + 1) o' e; rwa [show k + (j + 1) = k + 1 + j by omega] at this) h.2⟩
    intro dn us w A hev hy hG hdn hdep K hK
    refine h.1 dn us w A hev hy hG.1 hG.2 hdn hdep K fun v w' hg => hK v w' ⟨hg, fun j hj => ?_⟩
    by_cases q : j = k
    · subst q
      have e := hl 0 o rfl
      rw [Nat.add_zero] at e
      unfold depsOf
      rw [e]
      exact allD_upd hdep
    · rw [updB_ne q] at hj
      exact allD_upd (hG.2 j hj)
theorem wp_region_C {P : Program} {id : Nat} {Q : Exit → Act → World → Prop} {a : Act} {w : World} {l : List Oper} (G : (Nat → Bool) → (Nat → Value) → World → Prop) (hm : P.follows .mixedOrders = true) (hB : (dstsOk l && inTs l a.tmps.size && acyc l 0) = true)
    (h0 : ∀ us, G (fun _ => false) us w.drew) (hop : EachC P l Q a G l 0) (hend : ∀ dn us w', G dn us w' → (∀ i, i < l.length → dn i = true) → Q .normal (fillA l us a) w') : (Code.region id l.toArray true).wp P Q a w :=
  wp_region_J (fun dn us w => G dn us w ∧ Shut l dn) hm hB (fun us => ⟨h0 us, fun _ e => (by cases e)⟩) (EachC.toJ (fun j o e => by rwa [Nat.zero_add]) hop) fun dn us w' hG hall => hend dn us w' hG.1 hall

/-- What is kept: number m is the last one, and turns the world. -/
structure LG (m : Nat) (F : Nat → Value → World → Prop) (W : World) (S : (Nat → Value) → World → Prop) (dn : Nat → Bool) (us : Nat → Value) (w : World) : Prop where
  below : dn m = false → Below W.heap.size W w
  pre : dn m = false → ∀ j, dn j = true → F j (us j) w
  all : dn m = true → ∀ j, j < m → dn j = true
  st : dn m = true → S us w
section
variable {m : Nat} {F : Nat → Value → World → Prop} {W w w' : World} {S : (Nat → Value) → World → Prop} {dn : Nat → Bool} {us : Nat → Value}
theorem LG.start (us : Nat → Value) : LG m F W S (fun _ => false) us W.drew :=
  ⟨fun _ => (Below.refl _ W).drew, fun _ _ e => (by cases e), fun e => (by cases e), fun e => (by cases e)⟩
theorem LG.not (h : LG m F W S dn us w) {i : Nat} (hd : dn i = false) (hi : i < m) : dn m = false := by
  cases q : dn m with
  | false => rfl
  | true => have := h.all q i hi; rw [hd] at this; cases this
theorem LG.called (h : LG m F W S dn us w) {i : Nat} (hd : dn i = false) (hi : i < m) (hF : ∀ j v w w', F j v w → Below w.heap.size w w' → F j v w') {v : Value} (hv : F i v w') (hb : Below w.heap.size w w') : LG m F W S (updB dn i) (updN us i v) w' := by
  have hm := h.not hd hi
  have e : updB dn i m = false := by rw [updB_ne (by omega)]; exact hm
  refine ⟨fun _ => (h.below hm).trans (hb.mono (h.below hm).size), fun _ j q => ?_, fun q => (by rw [e] at q; cases q), fun q => (by rw [e] at q; cases q)⟩
  by_cases c : j = i
  · subst c; rw [updN_eq]; exact hv
  · rw [updB_ne c] at q; rw [updN_ne c]; exact hF _ _ _ _ (h.pre hm j q) hb
theorem LG.first (h : LG m F W S dn us w) {i : Nat} (hd : dn i = false) (hi : i < m) {v : Value} (hv : F i v w) : LG m F W S (updB dn i) (updN us i v) w := by
  have hm := h.not hd hi
  have e : updB dn i m = false := by rw [updB_ne (by omega)]; exact hm
  refine ⟨fun _ => h.below hm, fun _ j q => ?_, fun q => (by rw [e] at q; cases q), fun q => (by rw [e] at q; cases q)⟩
  by_cases c : j = i
  · subst c; rw [updN_eq]; exact hv
  · rw [updB_ne c] at q; rw [updN_ne c]; exact h.pre hm j q
theorem LG.stored {v : Value} (ha : ∀ j, j < m → dn j = true) (hs : S (updN us m v) w') : LG m F W S (updB dn m) (updN us m v) w' :=
  ⟨fun e => (by rw [updB_eq] at e; cases e), fun e => (by rw [updB_eq] at e; cases e), fun _ j hj => by rw [updB_ne (by omega)]; exact ha j hj, fun _ => hs⟩
end
/-- What is told of the values: of numbers n1 and n2 also what lies in memory. -/
def FL (F0 : Nat → Value → Prop) (n1 n2 : Nat) (R1 R2 : World → Value → Prop) (j : Nat) (v : Value) (w : World) : Prop := F0 j v ∧ (j = n1 → R1 w v) ∧ (j = n2 → R2 w v)
section
variable {m n1 n2 : Nat} {F0 : Nat → Value → Prop} {R1 R2 : World → Value → Prop} {W w w' : World} {S : (Nat → Value) → World → Prop} {dn : Nat → Bool} {us : Nat → Value}
theorem FL.mono (h1 : ∀ w w' v, R1 w v → Below w.heap.size w w' → R1 w' v) (h2 : ∀ w w' v, R2 w v → Below w.heap.size w w' → R2 w' v) : ∀ j v w w', FL F0 n1 n2 R1 R2 j v w → Below w.heap.size w w' → FL F0 n1 n2 R1 R2 j v w' :=
  fun _ _ _ _ h hb => ⟨h.1, fun e => h1 _ _ _ (h.2.1 e) hb, fun e => h2 _ _ _ (h.2.2 e) hb⟩
theorem LG.plain (h : LG m (FL F0 n1 n2 R1 R2) W S dn us w) {i : Nat} (hd : dn i = false) (hi : i < m) (h1 : i ≠ n1) (h2 : i ≠ n2) {v : Value} (hv : F0 i v) : LG m (FL F0 n1 n2 R1 R2) W S (updB dn i) (updN us i v) w :=
  h.first hd hi ⟨hv, fun e => (h1 e).elim, fun e => (h2 e).elim⟩
theorem LG.quiet (h : LG m (FL F0 n1 n2 R1 R2) W S dn us w) {i : Nat} (hd : dn i = false) (hi : i < m) (h1 : i ≠ n1) (h2 : i ≠ n2) (m1 : ∀ w w' v, R1 w v → Below w.heap.size w w' → R1 w' v) (m2 : ∀ w w' v, R2 w v → Below w.heap.size w w' → R2 w' v) {v : Value} (hv : F0 i v) (hb : Below w.heap.size w w') : LG m (FL F0 n1 n2 R1 R2) W S (updB dn i) (updN us i v) w' :=
  h.called hd hi (FL.mono m1 m2) ⟨hv, fun e => (h1 e).elim, fun e => (h2 e).elim⟩ hb
theorem LG.sp1 (h : LG m (FL F0 n1 n2 R1 R2) W S dn us w) (hd : dn n1 = false) (hi : n1 < m) (h2 : n1 ≠ n2) (m1 : ∀ w w' v, R1 w v → Below w.heap.size w w' → R1 w' v) (m2 : ∀ w w' v, R2 w v → Below w.heap.size w w' → R2 w' v) {v : Value} (hv : F0 n1 v) (hr : R1 w' v) (hb : Below w.heap.size w w') : LG m (FL F0 n1 n2 R1 R2) W S (updB dn n1) (updN us n1 v) w' :=
  h.called hd hi (FL.mono m1 m2) ⟨hv, fun _ => hr, fun e => (h2 e).elim⟩ hb
theorem LG.sp2 (h : LG m (FL F0 n1 n2 R1 R2) W S dn us w) (hd : dn n2 = false) (hi : n2 < m) (h2 : n2 ≠ n1) (m1 : ∀ w w' v, R1 w v → Below w.heap.size w w' → R1 w' v) (m2 : ∀ w w' v, R2 w v → Below w.heap.size w w' → R2 w' v) {v : Value} (hv : F0 n2 v) (hr : R2 w' v) (hb : Below w.heap.size w w') : LG m (FL F0 n1 n2 R1 R2) W S (updB dn n2) (updN us n2 v) w' :=
  h.called hd hi (FL.mono m1 m2) ⟨hv, fun e => (h2 e).elim, fun _ => hr⟩ hb
theorem LG.val (h : LG m (FL F0 n1 n2 R1 R2) W S dn us w) {i j : Nat} (hd : dn i = false) (hi : i < m) (hj : dn j = true) : F0 j (us j) := (h.pre (h.not hd hi) j hj).1
theorem LG.valS (h : LG m (FL F0 n1 n2 R1 R2) W S dn us w) (hd : dn m = false) {j : Nat} (hj : dn j = true) : F0 j (us j) := (h.pre hd j hj).1
end
end Go.Proofs.YtccmjljlfgbicaaGreat
