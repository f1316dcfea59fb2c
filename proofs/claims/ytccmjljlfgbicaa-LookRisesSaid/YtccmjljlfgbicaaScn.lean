/- A scan, as far as it has come; lists of pairs in memory. Plain. -/
import Derived.Test.YtccmjljlfgbicaaSortP
import Derived.Test.YtccmjljlfgbicaaBegin
import Derived.Test.YtccmjljlfgbicaaLook
import Derived.Deep.Onto
namespace Go.Proofs.Ytccmjljlfgbicaa
open Go.ChangeShapes Go.WideShapes Go.ChangeAt Go.RowKit

structure Scn where
  call : GCall
  phase : Int
  bucket : Int
  node : Int
  next : Int
  lists : List (List (Int × Int))
  done : Bool
  err : Int
  rdone : Bool
  pairs : List (Int × Int)
abbrev Scn.cells (x : Scn) (lv pv : Value) : Array Value := #[.int .i64 x.call.kind, .int .u64 x.call.key, .int .u64 x.call.val, .int .i64 x.call.limit, .int .i64 x.phase, .int .i64 x.bucket, .int .i64 x.node, .int .u64 x.next, lv, .bool x.done, .int .i64 x.err, .bool x.rdone, .int .u64 0, pv]
abbrev Scn.val (x : Scn) (lv pv : Value) : Value := .agg (x.cells lv pv)
def Scn.wrong (e : Int) : Scn := ⟨GCall.none_, 0, 0, 0, 0, [], true, e, false, []⟩
def Scn.start (c : GCall) (b : Int) : Scn := ⟨c, 0, 0, 0, 0, List.replicate b.toNat [], decide (c.val < c.key ∨ c.limit < 1), 0, decide (c.val < c.key ∨ c.limit < 1), []⟩

/-- Lists of pairs, put together: here of one list. -/
def mrg (ls : List (List (Int × Int))) (limit : Int) : List (Int × Int) := (ls.headD []).take limit.toNat
/-- To come to a node. -/
def St.scnArrive (s : St) (x : Scn) (n : Int) : Scn :=
  if n ≠ 0 ∧ s.key n ≤ x.call.val then { x with node := n, phase := 1 }
  else if x.bucket + 1 = s.c.buckets then { x with node := n, bucket := x.bucket + 1, phase := 0, done := true, err := 0, rdone := true, pairs := mrg x.lists x.call.limit }
  else { x with node := n, bucket := x.bucket + 1, phase := 0 }
/-- Is a key not the last one of a list? -/
def freshP (l : List (Int × Int)) (k : Int) : Bool := match l.getLast? with | some p => p.1 != k | none => true
/-- To take a node's pair, by its operation's word. -/
def St.scnJudge (s : St) (x : Scn) (v : Int) : Scn :=
  match x.lists[x.bucket.toNat]? with
  | some l => if v = 1 ∧ x.call.key ≤ s.key x.node ∧ s.key x.node ≤ x.call.val ∧ freshP l (s.key x.node) = true then { x with lists := x.lists.set x.bucket.toNat (l ++ [(s.key x.node, (s.call (s.carried x.node)).val)]) } else x
  | none => x
/-- One step of a scan. -/
def St.scnStep (s : St) (x : Scn) : St × Scn :=
  if x.done then (s, x)
  else if x.phase = 0 then (s.load (s.nextAt (s.headAt x.bucket)), s.scnArrive x (s.peek (s.nextAt (s.headAt x.bucket)) / 2))
  else if x.phase = 1 then (s.load (s.nextAt x.node), { x with next := s.peek (s.nextAt x.node), phase := 2 })
  else if x.phase = 2 then (s.load (s.wordAt (s.carried x.node)), s.scnArrive (s.scnJudge x (s.peek (s.wordAt (s.carried x.node)))) (x.next / 2))
  else (s, { x with done := true })
/-- A scan that begins. -/
def St.scnNew (s : St) (thread : Int) (c : GCall) : St × Scn :=
  if c.kind = 4 then (if (s.begin thread c).2.2 = 0 then ((s.begin thread c).1, Scn.start c s.c.buckets) else ((s.begin thread c).1, Scn.wrong (s.begin thread c).2.2)) else (s, Scn.wrong 1)

/-- A list of pairs in memory, in blocks of a kind. -/
def PairsIn (w : World) (N : Nat → Prop) (v : Value) (l : List (Int × Int)) : Prop :=
  (l = [] ∧ ∃ ao cap, v = .slice ao 0 cap) ∨ ∃ b o cap, v = .slice (some ⟨b, o, none⟩) l.length cap ∧ l ≠ [] ∧ l.length ≤ cap ∧ N b ∧ ∀ j u, (pairsV l)[j]? = some u → w.cell? ⟨b, o + j, none⟩ = some u
/-- Lists of pairs in memory. -/
def ListsIn (w : World) (N : Nat → Prop) (v : Value) (ls : List (List (Int × Int))) : Prop :=
  (ls = [] ∧ v = .slice none 0 0) ∨ ∃ b o cap, v = .slice (some ⟨b, o, none⟩) ls.length cap ∧ ls ≠ [] ∧ ls.length ≤ cap ∧ N b ∧ ∀ i l, ls[i]? = some l → ∃ u, w.cell? ⟨b, o + i, none⟩ = some u ∧ PairsIn w N u l
/-- What a scan's words point to. -/
structure ScnIn (w : World) (N : Nat → Prop) (x : Scn) (lv pv : Value) : Prop where
  lists : ListsIn w N lv x.lists
  pairs : PairsIn w N pv x.pairs
section
variable {w w' : World} {N M : Nat → Prop} {v : Value} {l : List (Int × Int)} {ls : List (List (Int × Int))}
theorem PairsIn.go (h : PairsIn w N v l) (hM : ∀ b, N b → b < w.heap.size → M b) (hk : ∀ b, N b → b < w.heap.size → w'.heap[b]? = w.heap[b]?) : PairsIn w' M v l := by
  rcases h with h | ⟨b, o, cap, h1, h2, h3, h4, h5⟩
  · exact .inl h
  · have hlt : b < w.heap.size := by
      obtain ⟨p, t, rfl⟩ : ∃ p t, l = p :: t := by cases l with | nil => exact (h2 rfl).elim | cons p t => exact ⟨p, t, rfl⟩
      exact World.block_lt_of_cell? w _ (h5 0 _ rfl)
    exact .inr ⟨b, o, cap, h1, h2, h3, hM b h4 hlt, fun j u hu => by rw [World.cell?_of_block (hk b h4 hlt)]; exact h5 j u hu⟩
theorem ListsIn.go (h : ListsIn w N v ls) (hM : ∀ b, N b → b < w.heap.size → M b) (hk : ∀ b, N b → b < w.heap.size → w'.heap[b]? = w.heap[b]?) : ListsIn w' M v ls := by
  rcases h with h | ⟨b, o, cap, h1, h2, h3, h4, h5⟩
  · exact .inl h
  · have hlt : b < w.heap.size := by
      obtain ⟨p, t, rfl⟩ : ∃ p t, ls = p :: t := by cases ls with | nil => exact (h2 rfl).elim | cons p t => exact ⟨p, t, rfl⟩
      obtain ⟨u, hu, _⟩ := h5 0 p rfl
      exact World.block_lt_of_cell? w _ hu
    refine .inr ⟨b, o, cap, h1, h2, h3, hM b h4 hlt, fun i l hl => ?_⟩
    obtain ⟨u, hu, hp⟩ := h5 i l hl
    exact ⟨u, by rw [World.cell?_of_block (hk b h4 hlt)]; exact hu, hp.go hM hk⟩
theorem ScnIn.go {x : Scn} {lv pv : Value} (h : ScnIn w N x lv pv) (hM : ∀ b, N b → b < w.heap.size → M b) (hk : ∀ b, N b → b < w.heap.size → w'.heap[b]? = w.heap[b]?) : ScnIn w' M x lv pv := ⟨h.lists.go hM hk, h.pairs.go hM hk⟩
theorem PairsIn.below (h : PairsIn w N v l) (hb : Below w.heap.size w w') : PairsIn w' N v l := h.go (fun _ h _ => h) fun b _ hl => hb.block b hl
theorem ListsIn.below (h : ListsIn w N v ls) (hb : Below w.heap.size w w') : ListsIn w' N v ls := h.go (fun _ h _ => h) fun b _ hl => hb.block b hl
theorem ScnIn.below {x : Scn} {lv pv : Value} (h : ScnIn w N x lv pv) (hb : Below w.heap.size w w') : ScnIn w' N x lv pv := ⟨h.lists.below hb, h.pairs.below hb⟩
theorem PairsIn.only {S : Nat → Prop} (h : PairsIn w N v l) (ho : Only S w w') (hS : ∀ b, N b → ¬ S b) : PairsIn w' N v l := h.go (fun _ h _ => h) fun b hn hl => ho.block b hl (hS b hn)
theorem ListsIn.only {S : Nat → Prop} (h : ListsIn w N v ls) (ho : Only S w w') (hS : ∀ b, N b → ¬ S b) : ListsIn w' N v ls := h.go (fun _ h _ => h) fun b hn hl => ho.block b hl (hS b hn)
theorem ScnIn.only {S : Nat → Prop} {x : Scn} {lv pv : Value} (h : ScnIn w N x lv pv) (ho : Only S w w') (hS : ∀ b, N b → ¬ S b) : ScnIn w' N x lv pv := ⟨h.lists.only ho hS, h.pairs.only ho hS⟩
theorem PairsIn.form (h : PairsIn w N v l) : ∃ ao cap, v = .slice ao l.length cap := by
  rcases h with ⟨rfl, ao, cap, rfl⟩ | ⟨b, o, cap, rfl, _⟩
  · exact ⟨ao, cap, rfl⟩
  · exact ⟨_, cap, rfl⟩
theorem PairsIn.nil (w : World) (N : Nat → Prop) : PairsIn w N (.slice none 0 0) [] := .inl ⟨rfl, _, _, rfl⟩
theorem ListsIn.nil (w : World) (N : Nat → Prop) : ListsIn w N (.slice none 0 0) [] := .inl ⟨rfl, rfl⟩
theorem PairsIn.of_row {base n : Nat} {e : TypeId} (h : w.ownsRow base e 2 v n (pairsV l)) (hN : ∀ b, base ≤ b → N b) : PairsIn w N v l := by
  have hl : l.length = n := by have := h.1; rw [pairsV_len] at this; omega
  rcases h.2 with ⟨rfl, h2⟩ | ⟨g, cap, cur, rfl, h2, h3, h4, h5, h6, h7⟩
  · exact .inl ⟨List.length_eq_zero_iff.1 (by omega), _, _, rfl⟩
  · by_cases h0 : l = []
    · have e0 : n = 0 := by rw [← hl, h0]; rfl
      exact .inl ⟨h0, _, _, by rw [e0]⟩
    · refine .inr ⟨g, 0, cap, by rw [hl], h0, by omega, hN g h2, fun j u hu => ?_⟩
      have hA : At w g e cur := h3
      rw [Nat.zero_add, hA.cell, ← Array.getElem?_toList]
      rw [← h7, List.getElem?_take] at hu
      split at hu
      · exact hu
      · cases hu
end
end Go.Proofs.Ytccmjljlfgbicaa
