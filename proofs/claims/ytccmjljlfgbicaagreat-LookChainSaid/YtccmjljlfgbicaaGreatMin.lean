/- Small facts of worlds and of regions. -/
import Derived.Test.YtccmjljlfgbicaaGreatReg
import Derived.Test.YtccmjljlfgbicaaGreatRow
namespace Go.Proofs.YtccmjljlfgbicaaGreat
open Go.ChangeShapes Go.WideShapes Go.ChangeAt Go.RowKit

theorem below_twice (w : World) (o1 o2 : Obj) : Below w.heap.size w ((w.alloc o1).alloc o2) := ((Below.refl _ _).alloc (Nat.le_refl _) _).alloc (by simp) _
theorem below_only {S : Nat → Prop} {w w' : World} (h : Below w.heap.size w w') : Only S w w' := ⟨h.os, h.tape, h.output, h.size, fun i hi _ => h.block i hi⟩
theorem updB_ne {dn : Nat → Bool} {i j : Nat} (h : j ≠ i) : updB dn i j = dn j := if_neg h
theorem updB_eq {dn : Nat → Bool} {i : Nat} : updB dn i i = true := if_pos rfl
theorem updN_ne {us : Nat → Value} {i j : Nat} {v : Value} (h : j ≠ i) : updN us i v j = us j := if_neg h
theorem updN_eq {us : Nat → Value} {i : Nat} {v : Value} : updN us i v i = v := if_pos rfl
theorem cells_at {w : World} {T : Nat} {t : TypeId} {a b : Array Value} (h : At w T t a) (e : a = b) : At w T t b := e ▸ h
end Go.Proofs.YtccmjljlfgbicaaGreat
