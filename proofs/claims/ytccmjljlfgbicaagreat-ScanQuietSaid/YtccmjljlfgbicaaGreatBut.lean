/- A world that is held, where one block apart was changed. -/
import Derived.Test.YtccmjljlfgbicaaGreatWalkA
namespace Go.Proofs.YtccmjljlfgbicaaGreat
open Go.ChangeShapes Go.WideShapes Go.ChangeAt Go.RowKit

theorem Holds.but {k : Blks} {s : St} {W W' : World} (h : Holds k s W) {b : Nat} (hb : Out k b) (ho : Only (fun j => j = b) W W') : Holds k s W' := by
  obtain ⟨h1, h2, h3⟩ := hb
  refine h.keep (S := fun j => j = b) ho (Ne.symm h2) ?_ ?_ (Ne.symm h3) ?_ ?_ ?_
  · rintro rfl; exact h1 (.inl rfl)
  · rintro rfl; exact h1 (.inr (.inl rfl))
  · rintro rfl; exact h1 (.inr (.inr (.inl rfl)))
  · rintro rfl; exact h1 (.inr (.inr (.inr (.inl rfl))))
  · rintro rfl; exact h1 (.inr (.inr (.inr (.inr rfl))))
end Go.Proofs.YtccmjljlfgbicaaGreat
