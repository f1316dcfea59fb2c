/- The scene that is awake (chapter 10): pure. -/
import Derived.Test.YtccmjljlfgbicaaLaid
import Derived.Test.YtccmjljlfgbicaaLook
namespace Go.Proofs.Ytccmjljlfgbicaa
open Go.ChangeShapes Go.WideShapes Go.ChangeAt Go.RowKit

/-- Steps of a walk that nobody disturbs. -/
def walkIter : Nat → St × Walk → St × Walk
  | 0, p => p
  | n + 1, p => (walkIter n p).1.walkStep (walkIter n p).2
theorem walkIter_zero (p : St × Walk) : walkIter 0 p = p := rfl
theorem walkIter_next {n : Nat} {p : St × Walk} {s : St} {x : Walk} (h : walkIter n p = (s, x)) : walkIter (n + 1) p = ((s.walkStep x).1, (s.walkStep x).2) := by rw [walkIter, h]
def awScene : Scene := ⟨0, [⟨1, 0, 2, false, false⟩, ⟨3, 0, 0, false, false⟩], []⟩
def awStart : St × Walk := (awScene.lay, Walk.new 3 1)
/-- As walkIter, from the front. -/
def walkRun : Nat → St × Walk → St × Walk
  | 0, p => p
  | n + 1, p => walkRun n (p.1.walkStep p.2)
theorem walkRun_iter (n : Nat) : ∀ p, walkRun n p = walkIter n p := by
  have h : ∀ n p, walkIter n (p.1.walkStep p.2) = walkIter (n + 1) p := by
    intro n
    induction n with
    | zero => intro p; rfl
    | succ n ih => intro p; rw [walkIter, ih]; rfl
  induction n with
  | zero => intro p; rfl
  | succ n ih => intro p; rw [walkRun, ih, h]
set_option maxRecDepth 100000 in
theorem aw_pure' : (walkRun 20 awStart).2.done = true ∧ (walkRun 20 awStart).2.stop = false ∧ (walkRun 20 awStart).2.curr = 0 ∧ (walkRun 20 awStart).2.seen = 1 ∧
    (walkRun 20 awStart).1.peek ((walkRun 20 awStart).1.wordAt 1) = 1 ∧ (((walkRun 20 awStart).1.load ((walkRun 20 awStart).1.wordAt 1)).chain 0).length = 1 ∧ ((walkRun 20 awStart).1.load ((walkRun 20 awStart).1.wordAt 1)).steps = 17 := by decide +kernel

end Go.Proofs.Ytccmjljlfgbicaa
