/- WalkEnds, the plain law: a walk in a scene's world that nobody disturbs. -/
import Derived.Test.YtccmjljlfgbicaaGreatLaid
namespace Go.Proofs.YtccmjljlfgbicaaGreat
open Go.ChangeShapes Go.WideShapes Go.ChangeAt Go.RowKit

theorem head_one {s : St} (h : s.c.buckets = 1) (key : Int) : s.head key = 1 := by
  unfold St.head
  rw [h]
  have hb : bucketOf key 1 = 0 := by
    unfold bucketOf
    rw [if_pos (by decide)]
    omega
  rw [hb]; rfl

/-- So many steps are behind a walk in a world of so many nodes. -/
structure EndsAt (x : Scene) (key mode : Int) (i : Nat) (s : St) (y : Walk) : Prop where
  next : 0 ≤ y.next ∧ y.next ≤ 18446744073709551615
  at_ : (i = 0 ∧ s = x.lay ∧ y = Walk.new key mode) ∨ (0 < i ∧ Left s y (8 * x.items.length + 1 - i))

theorem ends_start (x : Scene) (key mode : Int) : EndsAt x key mode 0 x.lay (Walk.new key mode) := ⟨by unfold Walk.new; simp, .inl ⟨rfl, rfl, rfl⟩⟩
theorem ends_step {x : Scene} {key mode : Int} {i : Nat} {s : St} {y : Walk} (hx : x.fits) (hlen : x.items.length ≤ 12) (hok : s.ok) (h : EndsAt x key mode i s y) :
    (y.done = true → (s.walkStep y).1.steps = s.steps) ∧ (y.done = false → (s.walkStep y).1.steps = wrap64 (s.steps + 1)) ∧ EndsAt x key mode (i + 1) (s.walkStep y).1 (s.walkStep y).2 := by
  have hn := step_next hok h.next
  rcases h.at_ with ⟨rfl, rfl, rfl⟩ | ⟨hi, hd | ⟨rest, hw, hb⟩⟩
  · obtain ⟨h1, h2, h3, h4, h5, h6⟩ := lay_path hx hlen
    have hc : x.lay.c.buckets = 1 := by rw [h2]; rfl
    have hnn : x.lay.c.nodes = 98 := by rw [h2]; exact conf_nodes hx.fuel
    have hh := head_one hc key
    obtain ⟨g1, g2⟩ := left_begin (mode := mode) hok (by rw [hh, hnn]; decide) (by rw [hh]; exact h4) (by rw [hh]; exact h3) (by rw [hh]; exact h5) h6
    refine ⟨fun e => (by cases e), fun _ => g1, ⟨hn, .inr ⟨by omega, ?_⟩⟩⟩
    rw [nodesFrom_len] at g2
    exact g2
  · have e : s.walkStep y = (s, y) := by unfold St.walkStep; rw [if_pos hd]
    rw [e]
    exact ⟨fun _ => rfl, fun e => (by rw [hd] at e; cases e), ⟨h.next, .inr ⟨by omega, .inl hd⟩⟩⟩
  · have h1 := wcost_le s y
    obtain ⟨g1, g2⟩ := left_step (b := 8 * x.items.length + 1 - (i + 1)) hok hw (by omega)
    exact ⟨fun e => (by rw [hw.go] at e; cases e), fun _ => g1, ⟨hn, .inr ⟨by omega, g2⟩⟩⟩
theorem ends_end {x : Scene} {key mode : Int} {i : Nat} {s : St} {y : Walk} (h : EndsAt x key mode i s y) (hi : i = 12 * x.items.length + 4) : y.done = true := by
  rcases h.at_ with ⟨h0, _⟩ | ⟨_, hd | ⟨rest, hw, hb⟩⟩
  · omega
  · exact hd
  · have := wcost_le s y; omega

end Go.Proofs.YtccmjljlfgbicaaGreat
