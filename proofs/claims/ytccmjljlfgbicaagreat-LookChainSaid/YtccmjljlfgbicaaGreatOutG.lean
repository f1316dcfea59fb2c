/- Regions that draw their order, of which two operations lay structs. -/
import Derived.Test.YtccmjljlfgbicaaGreatMin
import Derived.Test.YtccmjljlfgbicaaGreatHolds
namespace Go.Proofs.YtccmjljlfgbicaaGreat
open Go.ChangeShapes Go.WideShapes Go.ChangeAt Go.RowKit

/-- What is kept: pure operations and calls yield what is told; two stores, n0 and n1, lay two structs. -/
structure OutG (n0 n1 : Nat) (T0 T1 : TypeId) (g4 g5 : Nat) (c0 cs c1 cw : Array Value) (F : Nat → Value → Prop) (W : World) (dn : Nat → Bool) (us : Nat → Value) (w : World) : Prop where
  only : Only (fun j => j = g4 ∨ j = g5) W w
  pre : ∀ j, j ≠ n0 → j ≠ n1 → dn j = true → F j (us j)
  a4 : At w g4 T0 (if dn n0 then cs else c0)
  a5 : At w g5 T1 (if dn n1 then cw else c1)
section
variable {n0 n1 : Nat} {T0 T1 : TypeId} {g4 g5 : Nat} {c0 cs c1 cw : Array Value} {F : Nat → Value → Prop} {W w : World} {dn : Nat → Bool} {us : Nat → Value}
theorem OutG.start (us : Nat → Value) (h4 : At W g4 T0 c0) (h5 : At W g5 T1 c1) : OutG n0 n1 T0 T1 g4 g5 c0 cs c1 cw F W (fun _ => false) us W :=
  ⟨Only.refl _ _, fun _ _ _ e => (by cases e), h4, h5⟩
theorem OutG.called (h : OutG n0 n1 T0 T1 g4 g5 c0 cs c1 cw F W dn us w) {i : Nat} {v : Value} {w' : World} (h0 : i ≠ n0) (h1 : i ≠ n1) (hv : F i v) (hb : Below w.heap.size w w') : OutG n0 n1 T0 T1 g4 g5 c0 cs c1 cw F W (updB dn i) (updN us i v) w' := by
  refine ⟨h.only.thenBelow hb, fun j a b e => ?_, ?_, ?_⟩
  · by_cases q : j = i
    · subst q; rw [updN_eq]; exact hv
    · rw [updB_ne q] at e; rw [updN_ne q]; exact h.pre j a b e
  · rw [updB_ne (Ne.symm h0)]; exact h.a4.below' hb
  · rw [updB_ne (Ne.symm h1)]; exact h.a5.below' hb
theorem OutG.first (h : OutG n0 n1 T0 T1 g4 g5 c0 cs c1 cw F W dn us w) {i : Nat} {v : Value} (h0 : i ≠ n0) (h1 : i ≠ n1) (hv : F i v) : OutG n0 n1 T0 T1 g4 g5 c0 cs c1 cw F W (updB dn i) (updN us i v) w :=
  h.called h0 h1 hv (Below.refl _ _)
theorem OutG.laid0 (h : OutG n0 n1 T0 T1 g4 g5 c0 cs c1 cw F W dn us w) (hn : n0 ≠ n1) (hg : g4 ≠ g5) {w' : World} (hO : Only (fun j => j = g4) w w') (hA : At w' g4 T0 cs) (v : Value) : OutG n0 n1 T0 T1 g4 g5 c0 cs c1 cw F W (updB dn n0) (updN us n0 v) w' := by
  refine ⟨h.only.trans (hO.mono fun _ _ => .inl), fun j a b e => ?_, ?_, ?_⟩
  · rw [updB_ne a] at e; rw [updN_ne a]; exact h.pre j a b e
  · rw [updB_eq]; exact hA
  · rw [updB_ne (Ne.symm hn)]; exact h.a5.only hO (Ne.symm hg)
theorem OutG.laid1 (h : OutG n0 n1 T0 T1 g4 g5 c0 cs c1 cw F W dn us w) (hn : n0 ≠ n1) (hg : g4 ≠ g5) {w' : World} (hO : Only (fun j => j = g5) w w') (hA : At w' g5 T1 cw) (v : Value) : OutG n0 n1 T0 T1 g4 g5 c0 cs c1 cw F W (updB dn n1) (updN us n1 v) w' := by
  refine ⟨h.only.trans (hO.mono fun _ _ => .inr), fun j a b e => ?_, ?_, ?_⟩
  · rw [updB_ne b] at e; rw [updN_ne b]; exact h.pre j a b e
  · rw [updB_ne hn]; exact h.a4.only hO hg
  · rw [updB_eq]; exact hA
theorem OutG.old0 (h : OutG n0 n1 T0 T1 g4 g5 c0 cs c1 cw F W dn us w) (hd : dn n0 = false) : At w g4 T0 c0 := by have := h.a4; rwa [hd] at this
theorem OutG.old1 (h : OutG n0 n1 T0 T1 g4 g5 c0 cs c1 cw F W dn us w) (hd : dn n1 = false) : At w g5 T1 c1 := by have := h.a5; rwa [hd] at this
theorem OutG.out0 (h : OutG n0 n1 T0 T1 g4 g5 c0 cs c1 cw F W dn us w) (hd : dn n0 = true) : At w g4 T0 cs := by have := h.a4; rwa [hd] at this
theorem OutG.out1 (h : OutG n0 n1 T0 T1 g4 g5 c0 cs c1 cw F W dn us w) (hd : dn n1 = true) : At w g5 T1 cw := by have := h.a5; rwa [hd] at this
end
end Go.Proofs.YtccmjljlfgbicaaGreat
