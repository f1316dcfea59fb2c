/- A walk in memory; the contract of arriving at a node. -/
import Derived.Test.YtccmjljlfgbicaaGreatNew
namespace Go.Proofs.YtccmjljlfgbicaaGreat
open Go.ChangeShapes Go.WideShapes Go.ChangeAt Go.RowKit

/-- A walk, as far as it has come. -/
structure Walk where
  key : Int
  mode : Int
  phase : Int
  pred : Int
  curr : Int
  next : Int
  seen : Int
  found : Int
  stop : Bool
  done : Bool
deriving DecidableEq
abbrev Walk.cells (x : Walk) : Array Value := #[.int .u64 x.key, .int .i64 x.mode, .int .i64 x.phase, .int .i64 x.pred, .int .i64 x.curr, .int .u64 x.next, .int .i64 x.seen, .int .i64 x.found, .bool x.stop, .bool x.done]
abbrev Walk.val (x : Walk) : Value := .agg #[.int .u64 x.key, .int .i64 x.mode, .int .i64 x.phase, .int .i64 x.pred, .int .i64 x.curr, .int .u64 x.next, .int .i64 x.seen, .int .i64 x.found, .bool x.stop, .bool x.done]

/-- A block that is none of a world's. -/
def Out (k : Blks) (b : Nat) : Prop := ¬ Own k b ∧ b ≠ k.bw ∧ b ≠ k.bb
/-- The blocks that turn, and one more. -/
def OwnX (k : Blks) (b : Nat) (i : Nat) : Prop := Own k i ∨ i = b

theorem Holds.far {k : Blks} {s : St} {W : World} (h : Holds k s W) {b : Nat} (hb : Out k b) (i : Nat) (u : Value) : Holds k s (W.setCell ⟨b, i, none⟩ u) := by
  obtain ⟨h1, h2, h3⟩ := hb
  refine h.keep (S := fun j => j = b) ((Only.refl (fun j => j = b) W).set (p := ⟨b, i, none⟩) (.inl rfl) u) (Ne.symm h2) ?_ ?_ (Ne.symm h3) ?_ ?_ ?_
  · rintro rfl; exact h1 (.inl rfl)
  · rintro rfl; exact h1 (.inr (.inl rfl))
  · rintro rfl; exact h1 (.inr (.inr (.inl rfl)))
  · rintro rfl; exact h1 (.inr (.inr (.inr (.inl rfl))))
  · rintro rfl; exact h1 (.inr (.inr (.inr (.inr rfl))))
theorem Holds.out {k : Blks} {s : St} {W : World} (h : Holds k s W) {i : Nat} (hi : W.heap.size ≤ i) : Out k i :=
  ⟨h.fresh hi, by have := h.world.lt; omega, by have := h.book.lt; omega⟩
theorem onlyX {k : Blks} {b : Nat} {W W' : World} (h : Only (Own k) W W') : Only (OwnX k b) W W' := h.mono fun _ _ h => .inl h
theorem setX (k : Blks) (b i : Nat) (W : World) (u : Value) : Only (OwnX k b) W (W.setCell ⟨b, i, none⟩ u) := (Only.refl (OwnX k b) W).set (p := ⟨b, i, none⟩) (.inl (.inr rfl)) u

/-- The facts of a walk at a block. -/
theorem walk_facts {W : World} {b : Nat} {x : Walk} (h : At W b 74 x.cells) :
    (W.cell? ⟨b, 0, none⟩ = some (.int .u64 x.key) ∧ W.cell? ⟨b, 1, none⟩ = some (.int .i64 x.mode) ∧ W.cell? ⟨b, 2, none⟩ = some (.int .i64 x.phase) ∧ W.cell? ⟨b, 3, none⟩ = some (.int .i64 x.pred) ∧ W.cell? ⟨b, 4, none⟩ = some (.int .i64 x.curr) ∧ W.cell? ⟨b, 5, none⟩ = some (.int .u64 x.next) ∧ W.cell? ⟨b, 6, none⟩ = some (.int .i64 x.seen) ∧ W.cell? ⟨b, 7, none⟩ = some (.int .i64 x.found) ∧ W.cell? ⟨b, 8, none⟩ = some (.bool x.stop) ∧ W.cell? ⟨b, 9, none⟩ = some (.bool x.done)) ∧ (∀ i, W.frozen? ⟨b, i, none⟩ = false) ∧ b < W.heap.size :=
  ⟨⟨h.cell 0, h.cell 1, h.cell 2, h.cell 3, h.cell 4, h.cell 5, h.cell 6, h.cell 7, h.cell 8, h.cell 9⟩, h.frozen, h.lt⟩

/-- To arrive at a node. -/
def St.arrive (s : St) (x : Walk) (node : Int) : Walk :=
  if node = 0 ∨ x.key < s.key node then { x with curr := node, done := true } else { x with curr := node, phase := 1 }

set_option maxRecDepth 100000 in
set_option maxHeartbeats 2000000 in
theorem arrive_any {k : Blks} {s : St} (x : Walk) (node : Int) (b : Nat) (w : World) (h : Holds k s w) (hb : Out k b) (hx : At w b 74 x.cells) :
    Calls Tryz.prog 152 #[.pointer (some ⟨b, 0, none⟩), .pointer (some ⟨k.bw, 0, none⟩), .int .i64 node] w fun e w' => e = .returned (.tuple #[]) ∧ Holds k s w' ∧ At w' b 74 (s.arrive x node).cells ∧ Only (OwnX k b) w w' := by
  obtain ⟨⟨x0, x1, x2, x3, x4, x5, x6, x7, x8, x9⟩, xf, xl⟩ := walk_facts hx
  obtain ⟨⟨g0, g1, g2, g3, g4⟩, g5, g6, gl⟩ := h.wfacts
  have H1 := h.far hb 4 (.int .i64 node)
  have A1 : At (w.setCell ⟨b, 4, none⟩ (.int .i64 node)) b 74 (Walk.cells { x with curr := node }) := hx.set 4 _
  have O1 := setX k b 4 w (.int .i64 node)
  have nb : ¬ b = k.bw := hb.2.1
  have nb' : ¬ k.bw = b := fun e => nb e.symm
  by_cases h0 : node = 0
  · subst h0
    have Ha := Lib.hid (show s.arrive x 0 = { x with curr := 0, done := true } by unfold St.arrive; rw [if_pos (.inl rfl)])
    go_enter Tryz.func152, Tryz.ntmps152
    go_wp2_with fail
    go_quiet (fail)
    go_wp2_with fail
    refine bodyPost_ret (results_none rfl _ _ _) rfl ?_
    rw [Ha.out]
    exact ⟨rfl, (H1.drewN _).far hb 9 _, ((A1 : At ((w.setCell ⟨b, 4, none⟩ (.int .i64 0)).drewN nq) _ _ _).set 9 (.bool true) : At _ _ _ _), (O1.drewN nq).trans (setX k b 9 _ _)⟩
  · have h0' : (node == 0) = false := by simpa using h0
    have f9 : (w.setCell ⟨b, 4, none⟩ (.int .i64 node)).frozen? ⟨b, 9, none⟩ = false := A1.frozen 9
    have x0' : (w.setCell ⟨b, 4, none⟩ (.int .i64 node)).cell? ⟨b, 0, none⟩ = some (.int .u64 x.key) := A1.cell 0
    have g6' := (H1.wfacts).2.2.1
    have nbl := A1.lt
    have nwl := H1.world.lt
    go_enter Tryz.func152, Tryz.ntmps152
    go_wp2_with fail
    generalize w.setCell ⟨b, 4, none⟩ (.int .i64 node) = w1 at *
    clear xf
    go_region_held3 (fun w' => w'.cell? ⟨k.bw, 6, none⟩ = some (.pointer (some ⟨k.bb, 0, none⟩)) ∧ w'.cell? ⟨b, 0, none⟩ = some (.int .u64 x.key))
      (first | go_keep | (refine ⟨?_, ?_⟩ <;> (rw [hb2.cell (by simp; omega)]; go_simp)))
      ((go_at_call 36; refine (key_any node _ H1.drew).mono ?_; rintro e w2 ⟨rfl, hb2⟩))
    have H2 : Holds k s w2 := H1.drew.below hb2
    have A2 : At w2 b 74 (Walk.cells { x with curr := node }) := A1.drew.below hb2 (by simpa using nbl)
    have O2 : Only (OwnX k b) w w2 := O1.drew.trans (.ofBelow _ hb2)
    obtain ⟨⟨y0, y1, y2, y3, y4, y5, y6, y7, y8, y9⟩, yf, yl⟩ := walk_facts A2
    have yf9 := yf 9
    have yf2 := yf 2
    clear yf
    by_cases hk : x.key < s.key node
    · have Ha := Lib.hid (show s.arrive x node = { x with curr := node, done := true } by unfold St.arrive; rw [if_pos (.inr hk)])
      go_wp2_with fail
      refine bodyPost_ret (results_none rfl _ _ _) rfl ?_
      rw [Ha.out]
      exact ⟨rfl, H2.far hb 9 _, (A2.set 9 (.bool true) : At _ _ _ _), O2.trans (setX k b 9 _ _)⟩
    · have Ha := Lib.hid (show s.arrive x node = { x with curr := node, phase := 1 } by unfold St.arrive; rw [if_neg (by omega)])
      go_wp2_with fail
      go_end0
      rw [Ha.out]
      exact ⟨rfl, H2.far hb 2 _, (A2.set 2 (.int .i64 1) : At _ _ _ _), O2.trans (setX k b 2 _ _)⟩

end Go.Proofs.YtccmjljlfgbicaaGreat
