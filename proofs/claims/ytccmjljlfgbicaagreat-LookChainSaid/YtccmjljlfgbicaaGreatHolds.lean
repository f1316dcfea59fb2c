/- The state of a world, and a world that holds it. -/
import Derived.Test.YtccmjljlfgbicaaGreatBook
namespace Go.Proofs.YtccmjljlfgbicaaGreat
open Go.ChangeShapes Go.WideShapes Go.ChangeAt Go.RowKit

/-- A call of the map. -/
structure GCall where
  kind : Int
  key : Int
  val : Int
  limit : Int
deriving DecidableEq
abbrev GCall.v (c : GCall) : Value := .agg #[.int .i64 c.kind, .int .u64 c.key, .int .u64 c.val, .int .i64 c.limit]
abbrev GCall.none_ : GCall := ⟨0, 0, 0, 0⟩
def GCall.fits (c : GCall) : Prop := 0 ≤ c.key ∧ c.key ≤ 18446744073709551615 ∧ 0 ≤ c.val ∧ c.val ≤ 18446744073709551615

/-- A thread's counts. -/
structure Thr where
  calls : Int
  inserts : Int
  made : Int
deriving DecidableEq
def Thr.cells (t : Thr) : List Value := [.int .i64 t.calls, .int .i64 t.inserts, .int .i64 t.made]
def thrCells (l : List Thr) : Array Value := (l.flatMap Thr.cells).toArray

/-- All that threads share. -/
structure St where
  c : Conf
  words : List Int
  steps : Int
  thr : List Thr
  ops : List (Int × GCall)
  nodes : List (Int × Int)
deriving DecidableEq

def opsV (l : List (Int × GCall)) : List (Int × Value) := l.map fun p => (p.1, p.2.v)
def nodesV (l : List (Int × Int)) : List (Int × Value) := l.map fun p => (p.1, .int .i64 p.2)

/-- All is as it may be. -/
structure St.ok (s : St) : Prop where
  may : s.c.may = true
  thr : (s.thr.length : Int) = s.c.threads
  len : (s.words.length : Int) = s.c.nodes + s.c.ops + s.c.threads
  words : ∀ x ∈ s.words, 0 ≤ x ∧ x ≤ 18446744073709551615
  counts : ∀ t ∈ s.thr, 0 ≤ t.calls ∧ t.calls ≤ s.c.calls ∧ 0 ≤ t.inserts ∧ t.inserts ≤ s.c.inserts ∧ 0 ≤ t.made ∧ t.made ≤ 2 * s.c.calls
  ops : ∀ p ∈ s.ops, p.2.fits ∧ ∃ i : Nat, ∃ t, s.thr[i]? = some t ∧ i * s.c.calls ≤ p.1 ∧ p.1 < i * s.c.calls + t.calls
  nodes : ∀ p ∈ s.nodes, ∃ i : Nat, ∃ t, s.thr[i]? = some t ∧ 1 + s.c.buckets + i * (2 * s.c.calls) ≤ p.1 ∧ p.1 < 1 + s.c.buckets + i * (2 * s.c.calls) + t.made

/-- The blocks of a world. -/
structure Blks where
  bw : Nat
  bc : Nat
  bx : Nat
  bb : Nat
  bt : Nat
  bo : Nat
  bn : Nat

/-- The blocks that turn. -/
def Own (k : Blks) (i : Nat) : Prop := i = k.bc ∨ i = k.bx ∨ i = k.bt ∨ i = k.bo ∨ i = k.bn

structure Holds (k : Blks) (s : St) (W : World) : Prop where
  world : At W k.bw 70 #[.int .i64 s.c.threads, .int .i64 s.c.buckets, .int .i64 s.c.inserts, .int .i64 s.c.fuel, .int .i64 s.c.calls, .pointer (some ⟨k.bc, 0, none⟩), .pointer (some ⟨k.bb, 0, none⟩)]
  cells : CellsAt W k.bc k.bx s.words s.steps
  book : At W k.bb 163 #[.int .i64 s.c.threads, .int .i64 s.c.buckets, .int .i64 s.c.inserts, .int .i64 s.c.fuel, .int .i64 s.c.calls, .slice (some ⟨k.bt, 0, none⟩) s.thr.length s.thr.length, .map (some k.bo), .map (some k.bn)]
  thr : At W k.bt 189 (thrCells s.thr)
  ops : MapAt W k.bo (opsV s.ops)
  nodes : MapAt W k.bn (nodesV s.nodes)
  two : k.bo ≠ k.bn
  ok : s.ok

section
variable {k : Blks} {s : St} {W W' : World}
theorem Holds.ne_w (h : Holds k s W) : ¬ Own k k.bw := by
  rintro (e | e | e | e | e)
  · exact h.world.ne h.cells.head (by decide) e
  · exact h.world.ne h.cells.words (by decide) e
  · exact h.world.ne h.thr (by decide) e
  · exact (h.ops.ne h.world) e.symm
  · exact (h.nodes.ne h.world) e.symm
theorem Holds.ne_b (h : Holds k s W) : ¬ Own k k.bb := by
  rintro (e | e | e | e | e)
  · exact h.book.ne h.cells.head (by decide) e
  · exact h.book.ne h.cells.words (by decide) e
  · exact h.book.ne h.thr (by decide) e
  · exact (h.ops.ne h.book) e.symm
  · exact (h.nodes.ne h.book) e.symm
theorem Holds.keep (h : Holds k s W) {S : Nat → Prop} (ho : Only S W W') (h1 : ¬ S k.bw) (h2 : ¬ S k.bc) (h3 : ¬ S k.bx) (h4 : ¬ S k.bb) (h5 : ¬ S k.bt) (h6 : ¬ S k.bo) (h7 : ¬ S k.bn) : Holds k s W' :=
  ⟨h.world.only ho h1, h.cells.only ho h2 h3, h.book.only ho h4, h.thr.only ho h5, h.ops.only ho h6, h.nodes.only ho h7, h.two, h.ok⟩
theorem Holds.below (h : Holds k s W) (hb : Below W.heap.size W W') : Holds k s W' :=
  h.keep (S := fun _ => False) (.ofBelow _ hb) id id id id id id id
theorem Holds.alloc (h : Holds k s W) (o : Obj) : Holds k s (W.alloc o) := h.below ((Below.refl _ _).alloc (Nat.le_refl _) o)
theorem Holds.drew (h : Holds k s W) : Holds k s W.drew := h.below (Below.refl _ _).drew
theorem Holds.drewN (h : Holds k s W) (n : Nat) : Holds k s (W.drewN n) := h.below (bl_drewN (Below.refl _ _) n)
/-- The cells turned alone. -/
theorem Holds.turned (h : Holds k s W) {l : List Int} {n : Int} (ho : Only (CS k.bc k.bx) W W') (hc : CellsAt W' k.bc k.bx l n) (hok : (St.ok { s with words := l, steps := n })) : Holds k { s with words := l, steps := n } W' := by
  refine ⟨h.world.only ho ?_, hc, h.book.only ho ?_, h.thr.only ho ?_, h.ops.only ho ?_, h.nodes.only ho ?_, h.two, hok⟩
  · rintro (e | e)
    · exact h.world.ne h.cells.head (by decide) e
    · exact h.world.ne h.cells.words (by decide) e
  · rintro (e | e)
    · exact h.book.ne h.cells.head (by decide) e
    · exact h.book.ne h.cells.words (by decide) e
  · rintro (e | e)
    · exact h.thr.ne h.cells.head (by decide) e
    · exact h.thr.ne h.cells.words (by decide) e
  · rintro (e | e)
    · exact h.ops.ne h.cells.head e
    · exact h.ops.ne h.cells.words e
  · rintro (e | e)
    · exact h.nodes.ne h.cells.head e
    · exact h.nodes.ne h.cells.words e
theorem only_own (ho : Only (CS k.bc k.bx) W W') : Only (Own k) W W' := ho.mono fun _ _ h => h.elim .inl (fun h => .inr (.inl h))

/-- The facts of a world's own block, and of its book's. -/
theorem Holds.wfacts (h : Holds k s W) : ConfAt W k.bw s.c ∧ W.cell? ⟨k.bw, 5, none⟩ = some (.pointer (some ⟨k.bc, 0, none⟩)) ∧ W.cell? ⟨k.bw, 6, none⟩ = some (.pointer (some ⟨k.bb, 0, none⟩)) ∧ k.bw < W.heap.size :=
  ⟨⟨h.world.cell 0, h.world.cell 1, h.world.cell 2, h.world.cell 3, h.world.cell 4⟩, h.world.cell 5, h.world.cell 6, h.world.lt⟩
theorem Holds.bfacts (h : Holds k s W) : ConfAt W k.bb s.c ∧ W.cell? ⟨k.bb, 5, none⟩ = some (.slice (some ⟨k.bt, 0, none⟩) s.thr.length s.thr.length) ∧ W.cell? ⟨k.bb, 6, none⟩ = some (.map (some k.bo)) ∧ W.cell? ⟨k.bb, 7, none⟩ = some (.map (some k.bn)) ∧ k.bb < W.heap.size :=
  ⟨⟨h.book.cell 0, h.book.cell 1, h.book.cell 2, h.book.cell 3, h.book.cell 4⟩, h.book.cell 5, h.book.cell 6, h.book.cell 7, h.book.lt⟩
end

/-! ### What the book tells -/
def St.callOf (s : St) (op : Int) : Option GCall := look1 s.ops op
def St.call (s : St) (op : Int) : GCall := (s.callOf op).getD GCall.none_
def St.carried (s : St) (n : Int) : Int := (look1 s.nodes n).getD (-1)
def St.key (s : St) (n : Int) : Int := (s.call (s.carried n)).key

theorem look_ops (s : St) (op : Int) : look1 (opsV s.ops) op = (s.callOf op).map GCall.v := look1_map GCall.v s.ops op
theorem look_nodes (s : St) (n : Int) : look1 (nodesV s.nodes) n = (look1 s.nodes n).map (Value.int .i64) := look1_map (Value.int .i64) s.nodes n
theorem look1_mem {α : Type} {es : List (Int × α)} {k : Int} {v : α} (h : look1 es k = some v) : (k, v) ∈ es := by
  induction es with
  | nil => cases h
  | cons p es ih =>
    rw [look1_cons] at h
    split at h
    · rename_i e
      cases h
      rw [← e]; exact .head _
    · exact .tail _ (ih h)

set_option maxRecDepth 100000 in
set_option maxHeartbeats 1000000 in
theorem carried_any {k : Blks} {s : St} (n : Int) (w : World) (h : Holds k s w) :
    Calls Tryz.prog 38 #[.pointer (some ⟨k.bb, 0, none⟩), .int .i64 n] w fun e w' => e = .returned (.int .i64 (s.carried n)) ∧ w = w' := by
  obtain ⟨_, b5, b6, b7, bl⟩ := h.bfacts
  cases hl : look1 s.nodes n with
  | some op =>
    have Hr := Lib.hid (show s.carried n = op by unfold St.carried; rw [hl]; rfl)
    have hrun := run_lookup_in (P := Tryz.prog) Tryz.underlying161 Tryz.underlying3 h.nodes (k := n) (v := .int .i64 op) (by rw [look_nodes, hl]; rfl)
    clear hl
    go_enter Tryz.func38, Tryz.ntmps38
    go_wp2
    go_ret
    exact ⟨ret_u Hr.out.symm, rfl⟩
  | none =>
    have Hr := Lib.hid (show s.carried n = -1 by unfold St.carried; rw [hl]; rfl)
    have hrun := run_lookup_out (P := Tryz.prog) Tryz.underlying161 Tryz.underlying3 h.nodes (k := n) (z := .int .i64 0) (by intro w; kernel_rfl) (by rw [look_nodes, hl]; rfl)
    clear hl
    go_enter Tryz.func38, Tryz.ntmps38
    go_wp2
    go_ret
    exact ⟨ret_u Hr.out.symm, rfl⟩

end Go.Proofs.YtccmjljlfgbicaaGreat
