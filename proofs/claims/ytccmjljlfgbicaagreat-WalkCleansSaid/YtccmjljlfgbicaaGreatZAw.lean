/- The scene that is awake (chapter 10): pure. -/
import Derived.Test.YtccmjljlfgbicaaGreatLaid
import Derived.Test.YtccmjljlfgbicaaGreatLook
import Derived.Test.YtccmjljlfgbicaaGreatLay10
import Derived.Test.YtccmjljlfgbicaaGreatSeq
import Derived.Test.YtccmjljlfgbicaaGreatWalkE
namespace Go.Proofs.YtccmjljlfgbicaaGreat
open Go.ChangeShapes Go.WideShapes Go.ChangeAt Go.RowKit

/-- Steps of a walk that nobody disturbs. -/
def walkIter : Nat → St × Walk → St × Walk
  | 0, p => p
  | n + 1, p => (walkIter n p).1.walkStep (walkIter n p).2
theorem walkIter_zero (p : St × Walk) : walkIter 0 p = p := rfl
theorem walkIter_next {n : Nat} {p : St × Walk} {s : St} {x : Walk} (h : walkIter n p = (s, x)) : walkIter (n + 1) p = ((s.walkStep x).1, (s.walkStep x).2) := by rw [walkIter, h]
def awScene : Scene := ⟨0, [⟨1, 0, 2, false, false⟩, ⟨3, 0, 0, false, false⟩], []⟩
def awStart : St × Walk := (awScene.lay, Walk.new 3 1)
/-- As walkIter, from the front. -/
def walkRun : Nat → St × Walk → St × Walk
  | 0, p => p
  | n + 1, p => walkRun n (p.1.walkStep p.2)
theorem walkRun_iter (n : Nat) : ∀ p, walkRun n p = walkIter n p := by
  have h : ∀ n p, walkIter n (p.1.walkStep p.2) = walkIter (n + 1) p := by
    intro n
    induction n with
    | zero => intro p; rfl
    | succ n ih => intro p; rw [walkIter, ih]; rfl
  induction n with
  | zero => intro p; rfl
  | succ n ih => intro p; rw [walkRun, ih, h]
set_option maxRecDepth 100000 in
theorem aw_pure' : (walkRun 20 awStart).2.done = true ∧ (walkRun 20 awStart).2.stop = false ∧ (walkRun 20 awStart).2.curr = 0 ∧ (walkRun 20 awStart).2.seen = 1 ∧
    (walkRun 20 awStart).1.peek ((walkRun 20 awStart).1.wordAt 1) = 1 ∧ (((walkRun 20 awStart).1.load ((walkRun 20 awStart).1.wordAt 1)).chain 0).length = 1 ∧ ((walkRun 20 awStart).1.load ((walkRun 20 awStart).1.wordAt 1)).steps = 17 := by decide +kernel

end Go.Proofs.YtccmjljlfgbicaaGreat

/- Contract of awake (chapter 10). -/
namespace Go.Proofs.YtccmjljlfgbicaaGreat
open Go.ChangeShapes Go.WideShapes Go.ChangeAt Go.RowKit

/-- A scene whose items were built in place. -/
theorem sceneAt_built (w : World) (f : Int) (l : List GItem) (e : TypeId) : SceneAt (w.alloc (.cells (itemsV l).toArray e)) (.agg #[.int .u8 f, .slice (some ⟨w.heap.size, 0, none⟩) l.length l.length, .slice none 0 0]) ⟨f, l, []⟩ (some ⟨w.heap.size, 0, none⟩) none l.length 0 := by
  refine ⟨rfl, ?_, ?_⟩
  · intro j u hu
    refine ⟨w.heap.size, 0, rfl, ?_⟩
    have h := At.cell (At.new w e (itemsV l).toArray) (0 + j)
    rw [h]
    simpa using hu
  · intro j u hu
    simp [callsV] at hu

theorem aw_fits : awScene.fits := by
  refine ⟨by decide, ?_, ?_⟩
  · intro i hi
    simp only [awScene, List.mem_cons, List.not_mem_nil, or_false] at hi
    rcases hi with rfl | rfl
    · unfold GItem.fits; decide
    · unfold GItem.fits; decide
  · intro c hc; cases hc

/-- A walk that is laid into a block. -/
abbrev putWalk (W : World) (b : Nat) (y : Walk) : World :=
  (((((((((W.setCell ⟨b, 0, none⟩ (.int .u64 y.key)).setCell ⟨b, 1, none⟩ (.int .i64 y.mode)).setCell ⟨b, 2, none⟩ (.int .i64 y.phase)).setCell ⟨b, 3, none⟩ (.int .i64 y.pred)).setCell ⟨b, 4, none⟩ (.int .i64 y.curr)).setCell ⟨b, 5, none⟩ (.int .u64 y.next)).setCell ⟨b, 6, none⟩ (.int .i64 y.seen)).setCell ⟨b, 7, none⟩ (.int .i64 y.found)).setCell ⟨b, 8, none⟩ (.bool y.stop)).setCell ⟨b, 9, none⟩ (.bool y.done)
theorem put_walk {k : Blks} {s : St} {W : World} {b : Nat} {x : Walk} (h : Holds k s W) (hb : Out k b) (hA : At W b 74 x.cells) (y : Walk) : Holds k s (putWalk W b y) ∧ At (putWalk W b y) b 74 y.cells ∧ Only (OwnX k b) W (putWalk W b y) := by
  refine ⟨?_, ?_, ?_⟩
  · repeat (refine Holds.far ?_ hb _ _)
    exact h
  · have h10 := (((((((((hA.set 0 (.int .u64 y.key)).set 1 (.int .i64 y.mode)).set 2 (.int .i64 y.phase)).set 3 (.int .i64 y.pred)).set 4 (.int .i64 y.curr)).set 5 (.int .u64 y.next)).set 6 (.int .i64 y.seen)).set 7 (.int .i64 y.found)).set 8 (.bool y.stop)).set 9 (.bool y.done)
    simp only [List.setIfInBounds_toArray, List.set_cons_zero, List.set_cons_succ] at h10
    exact h10
  · repeat (refine Only.set ?_ (.inl (.inr rfl)) _)
    exact Only.refl _ _

set_option maxRecDepth 100000 in
set_option maxHeartbeats 1000000 in
theorem awake10_any (w : World) : Calls Tryz.prog 25 #[] w fun e w' => e = .returned (.bool true) ∧ Below w.heap.size w w' := by
  go_enter Tryz.func25, Tryz.ntmps25
  go_wp2_with (first
    | (go_at_call 26; refine (lay10_any _ aw_fits (by decide) (by decide) (sceneAt_built w 0 awScene.items 107)).mono ?_; rintro e w1 ⟨k, rfl, hH, hK, hb1⟩)
    | (go_at_call 27; refine (walknew_any 3 1 _).mono ?_; rintro e w2 ⟨rfl, hb2⟩))
  have H2 := hH.below hb2
  have hsz := hb2.size
  have hs1 := hb1.size
  have hO2 : Out k w2.heap.size := H2.out (Nat.le_refl _)
  have hB2 : Below w.heap.size w w2 := ((Below.refl _ w).alloc (Nat.le_refl _) _).trans ((hb1.trans (hb2.mono hs1)).mono (by simp))
  have hK' : ∀ i, i < w.heap.size → ¬ OwnX k w2.heap.size i := by
    intro i hi hn
    simp at hs1
    rcases hn with hn | hn
    · have := hK i (.inr (.inr hn)); simp at this; omega
    · omega
  clear hK hb1 hb2 hH
  have hst : awStart = (awScene.lay, Walk.new 3 1) := rfl
  generalize awScene.lay = s0 at *
  have HST := Lib.hid hst
  clear hst
  go_loopg [3] 20 (fun gg v3 wr => ∃ i : Nat, v3 = .int .i64 i ∧ i + gg = 20 ∧ ∃ s x, walkIter i awStart = (s, x) ∧ Holds k s wr ∧ At wr w2.heap.size 74 x.cells ∧ (0 ≤ x.next ∧ x.next ≤ 18446744073709551615) ∧ Only (OwnX k w2.heap.size) w2 wr)
  case atStart =>
    exact ⟨0, rfl, by omega, s0, Walk.new 3 1, (walkIter_zero _).trans HST.out, H2.alloc _, At.new w2 _ _, by decide, (Only.refl _ w2).alloc _⟩
  case round =>
    obtain ⟨i, rfl, hi, s, x, hs, hH, hA, hn, hO⟩ := hrel
    have HS := Lib.hid hs
    clear hs
    obtain ⟨⟨x0, x1, x2, x3, x4, x5, x6, x7, x8, x9⟩, xf, xl⟩ := walk_facts hA
    by_cases hlt : i < 20
    · go_wp2_with (go_at_call 30; refine (wstep_any x _ hH hn).mono ?_; rintro e w4 ⟨rfl, hH4, hO4⟩; have hA4 := hA.only hO4 hO2.1; obtain ⟨_, zf, zl⟩ := walk_facts hA4)
      go_roundg (20 - (i + 1))
      case measure => omega
      case rel =>
        obtain ⟨p1, p2, p3⟩ := put_walk hH4 hO2 hA4 (s.walkStep x).2
        exact ⟨i + 1, rfl, by omega, _, _, walkIter_next HS.out, p1, p2, step_next hH.ok hn, (hO.trans (onlyX hO4)).trans p3⟩
    · have e : i = 20 := by omega
      rw [e] at HS
      obtain ⟨q1, q2, q3, q4, q5, q6, q7⟩ := aw_pure'
      rw [walkRun_iter, HS.out] at q1 q2 q3 q4 q5 q6 q7
      simp only at q1 q2 q3 q4 q5 q6 q7
      rw [q1] at x9
      rw [q2] at x8
      rw [q3] at x4
      rw [q4] at x6
      have Q5 := Lib.hid q5
      clear q1 q2 q3 q4 q5 e
      go_wp2_with (first
        | (go_at_call 37; refine (wword_any 1 _ hH).mono ?_; rintro e w5 ⟨rfl, hH5, hO5⟩; rw [Q5.out])
        | (go_at_call 35; refine (chain_any 0 _ hH5).mono ?_; rintro e w6 ⟨v6, rfl, hR6, hb6⟩; rw [q6] at hR6; obtain ⟨ao, vc, rfl, hao⟩ := row_any hR6; have hH6 := hH5.below hb6; obtain ⟨_, f5, f6, fl⟩ := hH6.wfacts)
        | (go_at_call 24; refine (steps_any _ hH6.cells).mono ?_; rintro e w7 ⟨rfl, rfl⟩; rw [q7]))
      go_ret
      have hs5 := (hO.trans (onlyX (b := w2.heap.size) hO5)).size
      have hs6 := hB2.size
      refine ⟨rfl, (hB2.trans ((hO.trans (onlyX hO5)).below (by omega) hK')).trans (hb6.mono (by omega))⟩

end Go.Proofs.YtccmjljlfgbicaaGreat

