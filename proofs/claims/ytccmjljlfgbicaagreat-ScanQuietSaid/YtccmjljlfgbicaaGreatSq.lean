/- Short ways to say what printed obligations say. -/
import Derived.Test.YtccmjljlfgbicaaGreatReg
namespace Go.Proofs.YtccmjljlfgbicaaGreat
open Go.ChangeShapes Go.WideShapes Go.ChangeAt Go.RowKit

theorem dm {dn : Nat → Bool} {r : List Nat} (j : Nat) (h : AllD dn r) (hj : decide (j ∈ r) = true) : dn j = true := allD_mem h (of_decide_eq_true hj)
def boolOf (v : Value) : Option Bool := match v with | .bool b => some b | _ => none
theorem yb {v : Value} {b : Bool} (h : v = .bool b) : (boolOf v == some b) = true := by rw [h]; cases b <;> rfl
theorem yn {v u : Value} (c : Bool) (h : v = u) (hc : (boolOf u == some c) = false) : ¬ (boolOf v == some c) = true := by
  rw [h, hc]; exact Bool.noConfusion
end Go.Proofs.YtccmjljlfgbicaaGreat
