/- Regions that draw their order, of which one or two calls turn the world; what is told of the values says nothing of memory. -/
import Derived.Test.YtccmjljlfgbicaaGreatRegL
namespace Go.Proofs.YtccmjljlfgbicaaGreat
open Go.ChangeShapes Go.WideShapes Go.ChangeAt Go.RowKit

structure TG (m1 m2 : Nat) (L : List Nat) (F0 : Nat → Value → Prop) (W : World) (R S : World → Prop) (dn : Nat → Bool) (us : Nat → Value) (w : World) : Prop where
  pre : ∀ j, dn j = true → F0 j (us j)
  all : dn m1 = true → ∀ j ∈ L, dn j = true
  ord : dn m2 = true → dn m1 = true
  ph0 : dn m1 = false → Below W.heap.size W w
  ph1 : dn m1 = true → dn m2 = false → R w
  ph2 : dn m2 = true → S w
section
variable {m1 m2 : Nat} {L : List Nat} {F0 : Nat → Value → Prop} {W w w' : World} {R S : World → Prop} {dn : Nat → Bool} {us : Nat → Value}
theorem TG.start (us : Nat → Value) : TG m1 m2 L F0 W R S (fun _ => false) us W.drew :=
  ⟨fun _ e => (by cases e), fun e => (by cases e), fun e => (by cases e), fun _ => (Below.refl _ W).drew, fun e => (by cases e), fun e => (by cases e)⟩
theorem preUpd {i : Nat} {v : Value} (h : ∀ j, dn j = true → F0 j (us j)) (hv : F0 i v) : ∀ j, updB dn i j = true → F0 j (updN us i v j) := by
  intro j e
  by_cases q : j = i
  · subst q; rw [updN_eq]; exact hv
  · rw [updB_ne q] at e; rw [updN_ne q]; exact h j e
theorem allUpd {i : Nat} {L : List Nat} (h : ∀ j ∈ L, dn j = true) : ∀ j ∈ L, updB dn i j = true := by
  intro j hj
  by_cases q : j = i
  · subst q; exact updB_eq
  · rw [updB_ne q]; exact h j hj
theorem TG.not1 (h : TG m1 m2 L F0 W R S dn us w) {i : Nat} (hd : dn i = false) (hi : i ∈ L) : dn m1 = false := by
  cases q : dn m1 with
  | false => rfl
  | true => have := h.all q i hi; rw [hd] at this; cases this
theorem TG.pure (h : TG m1 m2 L F0 W R S dn us w) {i : Nat} (h1 : i ≠ m1) (h2 : i ≠ m2) {v : Value} (hv : F0 i v) : TG m1 m2 L F0 W R S (updB dn i) (updN us i v) w :=
  ⟨preUpd h.pre hv, fun e => (by rw [updB_ne (Ne.symm h1)] at e; exact allUpd (h.all e)), fun e => (by rw [updB_ne (Ne.symm h2)] at e; rw [updB_ne (Ne.symm h1)]; exact h.ord e), fun e => (by rw [updB_ne (Ne.symm h1)] at e; exact h.ph0 e), fun e1 e2 => (by rw [updB_ne (Ne.symm h1)] at e1; rw [updB_ne (Ne.symm h2)] at e2; exact h.ph1 e1 e2), fun e => (by rw [updB_ne (Ne.symm h2)] at e; exact h.ph2 e)⟩
theorem TG.quiet (h : TG m1 m2 L F0 W R S dn us w) {i : Nat} (hd : dn m1 = false) (h1 : i ≠ m1) (h2 : i ≠ m2) {v : Value} (hv : F0 i v) (hb : Below w.heap.size w w') : TG m1 m2 L F0 W R S (updB dn i) (updN us i v) w' := by
  have n2 : dn m2 = false := by
    cases q : dn m2 with
    | false => rfl
    | true => have := h.ord q; rw [hd] at this; cases this
  refine ⟨preUpd h.pre hv, fun e => (by rw [updB_ne (Ne.symm h1), hd] at e; cases e), fun e => (by rw [updB_ne (Ne.symm h2), n2] at e; cases e), fun _ => (h.ph0 hd).trans (hb.mono (h.ph0 hd).size), fun e => (by rw [updB_ne (Ne.symm h1), hd] at e; cases e), fun e => (by rw [updB_ne (Ne.symm h2), n2] at e; cases e)⟩
theorem TG.turn1 (h : TG m1 m2 L F0 W R S dn us w) (hd : dn m1 = false) (h12 : m1 ≠ m2) (ha : ∀ j ∈ L, dn j = true) {v : Value} (hv : F0 m1 v) (hR : R w') : TG m1 m2 L F0 W R S (updB dn m1) (updN us m1 v) w' := by
  have n2 : dn m2 = false := by
    cases q : dn m2 with
    | false => rfl
    | true => have := h.ord q; rw [hd] at this; cases this
  refine ⟨preUpd h.pre hv, fun _ => allUpd ha, fun _ => updB_eq, fun e => (by rw [updB_eq] at e; cases e), fun _ _ => hR, fun e => (by rw [updB_ne (Ne.symm h12), n2] at e; cases e)⟩
theorem TG.turn2 (h : TG m1 m2 L F0 W R S dn us w) (hd : dn m1 = true) (h12 : m1 ≠ m2) {v : Value} (hv : F0 m2 v) (hS : S w') : TG m1 m2 L F0 W R S (updB dn m2) (updN us m2 v) w' :=
  ⟨preUpd h.pre hv, fun _ => allUpd (h.all hd), fun _ => by rw [updB_ne h12]; exact hd, fun e => (by rw [updB_ne h12, hd] at e; cases e), fun _ e => (by rw [updB_eq] at e; cases e), fun _ => hS⟩
end
end Go.Proofs.YtccmjljlfgbicaaGreat
