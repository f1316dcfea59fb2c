/- Contracts of the document's answer: worlds. -/
import Derived.Test.YtccmjljlfgbicaaGreatRefS
import Derived.Test.YtccmjljlfgbicaaGreatWorld
namespace Go.Proofs.YtccmjljlfgbicaaGreat
open Go.ChangeShapes Go.WideShapes Go.ChangeAt Go.RowKit

/-- The answer's slices. -/
structure RV where
  w : Sl
  cs : Sl
  is : Sl
  ms : Sl
  os : Sl
  ns : Sl
def opRow (p : Int × GCall) : List Value := [.int .i64 p.1, .int .i64 p.2.kind, .int .u64 p.2.key, .int .u64 p.2.val, .int .i64 p.2.limit]
def nodeRow (p : Int × Int) : List Value := [.int .i64 p.1, .int .i64 p.2]
def opRows (l : List (Int × GCall)) : List Value := l.flatMap opRow
def nodeRows (l : List (Int × Int)) : List Value := l.flatMap nodeRow
def intsV (l : List Int) : List Value := l.map (Value.int .i64)
abbrev RV.bcells (r : RV) (s : St) : Array Value := #[.int .i64 s.c.threads, .int .i64 s.c.buckets, .int .i64 s.c.inserts, .int .i64 s.c.fuel, .int .i64 s.c.calls, .slice r.cs.1 s.thr.length r.cs.2, .slice r.is.1 s.thr.length r.is.2, .slice r.ms.1 s.thr.length r.ms.2, .slice r.os.1 s.ops.length r.os.2, .slice r.ns.1 s.nodes.length r.ns.2]
abbrev RV.book (r : RV) (s : St) : Value := .agg #[.int .i64 s.c.threads, .int .i64 s.c.buckets, .int .i64 s.c.inserts, .int .i64 s.c.fuel, .int .i64 s.c.calls, .slice r.cs.1 s.thr.length r.cs.2, .slice r.is.1 s.thr.length r.is.2, .slice r.ms.1 s.thr.length r.ms.2, .slice r.os.1 s.ops.length r.os.2, .slice r.ns.1 s.nodes.length r.ns.2]
abbrev RV.cells (r : RV) (s : St) : Array Value := #[.int .i64 s.c.threads, .int .i64 s.c.buckets, .int .i64 s.c.inserts, .int .i64 s.c.fuel, .int .i64 s.c.calls, .slice r.w.1 s.words.length r.w.2, .int .i64 s.steps, .int .i64 s.c.threads, .int .i64 s.c.buckets, .int .i64 s.c.inserts, .int .i64 s.c.fuel, .int .i64 s.c.calls, .slice r.cs.1 s.thr.length r.cs.2, .slice r.is.1 s.thr.length r.is.2, .slice r.ms.1 s.thr.length r.ms.2, .slice r.os.1 s.ops.length r.os.2, .slice r.ns.1 s.nodes.length r.ns.2]
abbrev RV.val (r : RV) (s : St) : Value := .agg #[.int .i64 s.c.threads, .int .i64 s.c.buckets, .int .i64 s.c.inserts, .int .i64 s.c.fuel, .int .i64 s.c.calls, .slice r.w.1 s.words.length r.w.2, .int .i64 s.steps, .int .i64 s.c.threads, .int .i64 s.c.buckets, .int .i64 s.c.inserts, .int .i64 s.c.fuel, .int .i64 s.c.calls, .slice r.cs.1 s.thr.length r.cs.2, .slice r.is.1 s.thr.length r.is.2, .slice r.ms.1 s.thr.length r.ms.2, .slice r.os.1 s.ops.length r.os.2, .slice r.ns.1 s.nodes.length r.ns.2]
/-- The answer's book, where it lies. -/
structure BookIn (w : World) (r : RV) (s : St) : Prop where
  cs : ReadAt w r.cs.1 (intsV (s.thr.map Thr.calls))
  is : ReadAt w r.is.1 (intsV (s.thr.map Thr.inserts))
  ms : ReadAt w r.ms.1 (intsV (s.thr.map Thr.made))
  os : ReadAt w r.os.1 (opRows s.ops)
  ns : ReadAt w r.ns.1 (nodeRows s.nodes)
  os0 : s.ops = [] → r.os = (none, 0)
  ns0 : s.nodes = [] → r.ns = (none, 0)
structure RefIn (w : World) (r : RV) (s : St) : Prop where
  words : ReadAt w r.w.1 (wordsV s.words)
  book : BookIn w r s
/-- A row lies where it lay, or in memory that is new. -/
def Fr (n : Nat) (a a' : Option Addr) : Prop := a' = a ∨ ∃ g, a' = some ⟨g, 0, none⟩ ∧ n ≤ g
theorem Fr.mono {n n' : Nat} {a a' : Option Addr} (h : Fr n a a') (hn : n' ≤ n) : Fr n' a a' := h.imp id fun ⟨g, x, y⟩ => ⟨g, x, Nat.le_trans hn y⟩
theorem Fr.trans {n : Nat} {a b c : Option Addr} (h : Fr n a b) (h' : Fr n b c) : Fr n a c := by
  rcases h' with rfl | h'
  · exact h
  · exact .inr h'
theorem Fr.off {n : Nat} {N : Nat → Prop} {a a' : Option Addr} (hf : Fr n a a') (h : ∀ b o, a = some ⟨b, o, none⟩ → ¬ N b) (hn : ∀ b, N b → b < n) : ∀ b o, a' = some ⟨b, o, none⟩ → ¬ N b := by
  intro b o e k
  rcases hf with rfl | ⟨g, rfl, hg⟩
  · exact h b o e k
  · injection e with e
    injection e with e1 e2
    have := hn b k
    omega
/-- What comes out: an answer of a state, in a form. -/
def RefOut (w : World) (r : RV) (f : Value → Value) (s : St) (e : Ending) (w' : World) : Prop :=
  ∃ p' : Sl, e = .returned (f (RV.val { r with w := p' } s)) ∧ ReadAt w' p'.1 (wordsV s.words) ∧ Below w.heap.size w w' ∧ Fr w.heap.size r.w.1 p'.1
/-- Words lie where no struct does. -/
theorem words_apart {w : World} {g : Nat} {t : TypeId} {cs : Array Value} {ao : Option Addr} {l : List Int} (h : ReadAt w ao (wordsV l)) (hA : At w g t cs) (hcs : ∀ x, Value.int .u64 x ∉ cs.toList) (hl : 0 < l.length) : ∀ b o, ao = some ⟨b, o, none⟩ → b ≠ g := by
  intro b o hb e
  obtain ⟨x, hx⟩ : ∃ x, l[0]? = some x := ⟨_, List.getElem?_eq_getElem hl⟩
  obtain ⟨b', o', h1, _, h2⟩ := read_word h hx
  rw [hb] at h1
  injection h1 with h1
  injection h1 with e1 e2
  subst e1; subst e
  rw [hA.cell] at h2
  exact hcs x (List.mem_of_getElem? (i := o' + 0) (by simpa using h2))
theorem ReadAt.below' {w w' : World} {ao : Option Addr} {cs : List Value} (h : ReadAt w ao cs) (hb : Below w.heap.size w w') : ReadAt w' ao cs := h.below hb
theorem BookIn.below {w w' : World} {r : RV} {s : St} (h : BookIn w r s) (hb : Below w.heap.size w w') : BookIn w' r s :=
  ⟨h.cs.below hb, h.is.below hb, h.ms.below hb, h.os.below hb, h.ns.below hb, h.os0, h.ns0⟩
theorem BookIn.other {w : World} {r : RV} {s s' : St} (h : BookIn w r s) (h1 : s'.thr = s.thr) (h2 : s'.ops = s.ops) (h3 : s'.nodes = s.nodes) (p : Sl) : BookIn w { r with w := p } s' :=
  ⟨by rw [h1]; exact h.cs, by rw [h1]; exact h.is, by rw [h1]; exact h.ms, by rw [h2]; exact h.os, by rw [h3]; exact h.ns, fun e => h.os0 (h2 ▸ e), fun e => h.ns0 (h3 ▸ e)⟩
theorem RefIn.below {w w' : World} {r : RV} {s : St} (h : RefIn w r s) (hb : Below w.heap.size w w') : RefIn w' r s := ⟨h.words.below hb, h.book.below hb⟩

theorem st_words {s : St} (h : s.ok) : 0 < s.words.length ∧ s.words.length ≤ 1048576 := by
  have h1 := h.len
  have h2 := nodes_bounds h.may
  have h3 := ops_bounds s.c
  have h4 := may_bounds h.may
  omega
theorem swap_len (s : St) (p old x : Int) : (s.swap p old x).words.length = s.words.length := by
  unfold St.swap swapL
  dsimp only
  split
  · rw [List.length_set]
  · rfl
theorem store_len (s : St) (p x : Int) : (s.store p x).words.length = s.words.length := by
  unfold St.store storeL
  dsimp only
  split
  · rw [List.length_set]
  · rfl

set_option maxRecDepth 100000 in
set_option maxHeartbeats 1000000 in
theorem rwpeek_any {r : RV} {s : St} (n : Int) (w : World) (h : RefIn w r s) :
    Calls Tryz.prog 66 #[r.val s, .int .i64 n] w fun e w' => e = .returned (.int .u64 (s.peek n)) ∧ Below w.heap.size w w' := by
  have HW := Lib.hid h.words
  clear h
  go_enter Tryz.func66, Tryz.ntmps66
  go_wp2_with (go_at_call 139; refine (rpeek_any (p := r.w) _ _ (HW.out.below ((Below.refl _ _).alloc (Nat.le_refl _) _))).mono ?_; rintro e w1 ⟨rfl, hb⟩)
  go_ret
  exact ⟨rfl, below_new hb⟩

theorem at17 {w : World} {g : Nat} {t : TypeId} {a0 a1 a2 a3 a4 a5 a6 a7 a8 a9 a10 a11 a12 a13 a14 a15 a16 : Value} (h : At w g t #[a0, a1, a2, a3, a4, a5, a6, a7, a8, a9, a10, a11, a12, a13, a14, a15, a16]) :
    (w.cell? ⟨g, 0, none⟩ = some a0 ∧ w.cell? ⟨g, 1, none⟩ = some a1 ∧ w.cell? ⟨g, 2, none⟩ = some a2 ∧ w.cell? ⟨g, 3, none⟩ = some a3 ∧ w.cell? ⟨g, 4, none⟩ = some a4 ∧ w.cell? ⟨g, 5, none⟩ = some a5 ∧ w.cell? ⟨g, 6, none⟩ = some a6 ∧ w.cell? ⟨g, 7, none⟩ = some a7 ∧ w.cell? ⟨g, 8, none⟩ = some a8 ∧ w.cell? ⟨g, 9, none⟩ = some a9 ∧ w.cell? ⟨g, 10, none⟩ = some a10 ∧ w.cell? ⟨g, 11, none⟩ = some a11 ∧ w.cell? ⟨g, 12, none⟩ = some a12 ∧ w.cell? ⟨g, 13, none⟩ = some a13 ∧ w.cell? ⟨g, 14, none⟩ = some a14 ∧ w.cell? ⟨g, 15, none⟩ = some a15 ∧ w.cell? ⟨g, 16, none⟩ = some a16) ∧ (∀ i, w.frozen? ⟨g, i, none⟩ = false) ∧ g < w.heap.size :=
  ⟨⟨h.cell 0, h.cell 1, h.cell 2, h.cell 3, h.cell 4, h.cell 5, h.cell 6, h.cell 7, h.cell 8, h.cell 9, h.cell 10, h.cell 11, h.cell 12, h.cell 13, h.cell 14, h.cell 15, h.cell 16⟩, h.frozen, h.lt⟩
/-- An answer that is laid into a block. -/
theorem put17 {W : World} {g : Nat} {t : TypeId} {c0 c1 c2 c3 c4 c5 c6 c7 c8 c9 c10 c11 c12 c13 c14 c15 c16 : Value} (h : At W g t #[c0, c1, c2, c3, c4, c5, c6, c7, c8, c9, c10, c11, c12, c13, c14, c15, c16]) (a0 a1 a2 a3 a4 a5 a6 a7 a8 a9 a10 a11 a12 a13 a14 a15 a16 : Value) :
    At (((((((((((((((((W.setCell ⟨g, 0, none⟩ a0).setCell ⟨g, 1, none⟩ a1).setCell ⟨g, 2, none⟩ a2).setCell ⟨g, 3, none⟩ a3).setCell ⟨g, 4, none⟩ a4).setCell ⟨g, 5, none⟩ a5).setCell ⟨g, 6, none⟩ a6).setCell ⟨g, 7, none⟩ a7).setCell ⟨g, 8, none⟩ a8).setCell ⟨g, 9, none⟩ a9).setCell ⟨g, 10, none⟩ a10).setCell ⟨g, 11, none⟩ a11).setCell ⟨g, 12, none⟩ a12).setCell ⟨g, 13, none⟩ a13).setCell ⟨g, 14, none⟩ a14).setCell ⟨g, 15, none⟩ a15).setCell ⟨g, 16, none⟩ a16) g t #[a0, a1, a2, a3, a4, a5, a6, a7, a8, a9, a10, a11, a12, a13, a14, a15, a16] ∧ Only (fun i => i = g) W (((((((((((((((((W.setCell ⟨g, 0, none⟩ a0).setCell ⟨g, 1, none⟩ a1).setCell ⟨g, 2, none⟩ a2).setCell ⟨g, 3, none⟩ a3).setCell ⟨g, 4, none⟩ a4).setCell ⟨g, 5, none⟩ a5).setCell ⟨g, 6, none⟩ a6).setCell ⟨g, 7, none⟩ a7).setCell ⟨g, 8, none⟩ a8).setCell ⟨g, 9, none⟩ a9).setCell ⟨g, 10, none⟩ a10).setCell ⟨g, 11, none⟩ a11).setCell ⟨g, 12, none⟩ a12).setCell ⟨g, 13, none⟩ a13).setCell ⟨g, 14, none⟩ a14).setCell ⟨g, 15, none⟩ a15).setCell ⟨g, 16, none⟩ a16) := by
  have h0 : At (W.setCell ⟨g, 0, none⟩ a0) g t #[a0, c1, c2, c3, c4, c5, c6, c7, c8, c9, c10, c11, c12, c13, c14, c15, c16] := h.set 0 a0
  have h1 : At ((W.setCell ⟨g, 0, none⟩ a0).setCell ⟨g, 1, none⟩ a1) g t #[a0, a1, c2, c3, c4, c5, c6, c7, c8, c9, c10, c11, c12, c13, c14, c15, c16] := h0.set 1 a1
  have h2 : At (((W.setCell ⟨g, 0, none⟩ a0).setCell ⟨g, 1, none⟩ a1).setCell ⟨g, 2, none⟩ a2) g t #[a0, a1, a2, c3, c4, c5, c6, c7, c8, c9, c10, c11, c12, c13, c14, c15, c16] := h1.set 2 a2
  have h3 : At ((((W.setCell ⟨g, 0, none⟩ a0).setCell ⟨g, 1, none⟩ a1).setCell ⟨g, 2, none⟩ a2).setCell ⟨g, 3, none⟩ a3) g t #[a0, a1, a2, a3, c4, c5, c6, c7, c8, c9, c10, c11, c12, c13, c14, c15, c16] := h2.set 3 a3
  have h4 : At (((((W.setCell ⟨g, 0, none⟩ a0).setCell ⟨g, 1, none⟩ a1).setCell ⟨g, 2, none⟩ a2).setCell ⟨g, 3, none⟩ a3).setCell ⟨g, 4, none⟩ a4) g t #[a0, a1, a2, a3, a4, c5, c6, c7, c8, c9, c10, c11, c12, c13, c14, c15, c16] := h3.set 4 a4
  have h5 : At ((((((W.setCell ⟨g, 0, none⟩ a0).setCell ⟨g, 1, none⟩ a1).setCell ⟨g, 2, none⟩ a2).setCell ⟨g, 3, none⟩ a3).setCell ⟨g, 4, none⟩ a4).setCell ⟨g, 5, none⟩ a5) g t #[a0, a1, a2, a3, a4, a5, c6, c7, c8, c9, c10, c11, c12, c13, c14, c15, c16] := h4.set 5 a5
  have h6 : At (((((((W.setCell ⟨g, 0, none⟩ a0).setCell ⟨g, 1, none⟩ a1).setCell ⟨g, 2, none⟩ a2).setCell ⟨g, 3, none⟩ a3).setCell ⟨g, 4, none⟩ a4).setCell ⟨g, 5, none⟩ a5).setCell ⟨g, 6, none⟩ a6) g t #[a0, a1, a2, a3, a4, a5, a6, c7, c8, c9, c10, c11, c12, c13, c14, c15, c16] := h5.set 6 a6
  have h7 : At ((((((((W.setCell ⟨g, 0, none⟩ a0).setCell ⟨g, 1, none⟩ a1).setCell ⟨g, 2, none⟩ a2).setCell ⟨g, 3, none⟩ a3).setCell ⟨g, 4, none⟩ a4).setCell ⟨g, 5, none⟩ a5).setCell ⟨g, 6, none⟩ a6).setCell ⟨g, 7, none⟩ a7) g t #[a0, a1, a2, a3, a4, a5, a6, a7, c8, c9, c10, c11, c12, c13, c14, c15, c16] := h6.set 7 a7
  have h8 : At (((((((((W.setCell ⟨g, 0, none⟩ a0).setCell ⟨g, 1, none⟩ a1).setCell ⟨g, 2, none⟩ a2).setCell ⟨g, 3, none⟩ a3).setCell ⟨g, 4, none⟩ a4).setCell ⟨g, 5, none⟩ a5).setCell ⟨g, 6, none⟩ a6).setCell ⟨g, 7, none⟩ a7).setCell ⟨g, 8, none⟩ a8) g t #[a0, a1, a2, a3, a4, a5, a6, a7, a8, c9, c10, c11, c12, c13, c14, c15, c16] := h7.set 8 a8
  have h9 : At ((((((((((W.setCell ⟨g, 0, none⟩ a0).setCell ⟨g, 1, none⟩ a1).setCell ⟨g, 2, none⟩ a2).setCell ⟨g, 3, none⟩ a3).setCell ⟨g, 4, none⟩ a4).setCell ⟨g, 5, none⟩ a5).setCell ⟨g, 6, none⟩ a6).setCell ⟨g, 7, none⟩ a7).setCell ⟨g, 8, none⟩ a8).setCell ⟨g, 9, none⟩ a9) g t #[a0, a1, a2, a3, a4, a5, a6, a7, a8, a9, c10, c11, c12, c13, c14, c15, c16] := h8.set 9 a9
  have h10 : At (((((((((((W.setCell ⟨g, 0, none⟩ a0).setCell ⟨g, 1, none⟩ a1).setCell ⟨g, 2, none⟩ a2).setCell ⟨g, 3, none⟩ a3).setCell ⟨g, 4, none⟩ a4).setCell ⟨g, 5, none⟩ a5).setCell ⟨g, 6, none⟩ a6).setCell ⟨g, 7, none⟩ a7).setCell ⟨g, 8, none⟩ a8).setCell ⟨g, 9, none⟩ a9).setCell ⟨g, 10, none⟩ a10) g t #[a0, a1, a2, a3, a4, a5, a6, a7, a8, a9, a10, c11, c12, c13, c14, c15, c16] := h9.set 10 a10
  have h11 : At ((((((((((((W.setCell ⟨g, 0, none⟩ a0).setCell ⟨g, 1, none⟩ a1).setCell ⟨g, 2, none⟩ a2).setCell ⟨g, 3, none⟩ a3).setCell ⟨g, 4, none⟩ a4).setCell ⟨g, 5, none⟩ a5).setCell ⟨g, 6, none⟩ a6).setCell ⟨g, 7, none⟩ a7).setCell ⟨g, 8, none⟩ a8).setCell ⟨g, 9, none⟩ a9).setCell ⟨g, 10, none⟩ a10).setCell ⟨g, 11, none⟩ a11) g t #[a0, a1, a2, a3, a4, a5, a6, a7, a8, a9, a10, a11, c12, c13, c14, c15, c16] := h10.set 11 a11
  have h12 : At (((((((((((((W.setCell ⟨g, 0, none⟩ a0).setCell ⟨g, 1, none⟩ a1).setCell ⟨g, 2, none⟩ a2).setCell ⟨g, 3, none⟩ a3).setCell ⟨g, 4, none⟩ a4).setCell ⟨g, 5, none⟩ a5).setCell ⟨g, 6, none⟩ a6).setCell ⟨g, 7, none⟩ a7).setCell ⟨g, 8, none⟩ a8).setCell ⟨g, 9, none⟩ a9).setCell ⟨g, 10, none⟩ a10).setCell ⟨g, 11, none⟩ a11).setCell ⟨g, 12, none⟩ a12) g t #[a0, a1, a2, a3, a4, a5, a6, a7, a8, a9, a10, a11, a12, c13, c14, c15, c16] := h11.set 12 a12
  have h13 : At ((((((((((((((W.setCell ⟨g, 0, none⟩ a0).setCell ⟨g, 1, none⟩ a1).setCell ⟨g, 2, none⟩ a2).setCell ⟨g, 3, none⟩ a3).setCell ⟨g, 4, none⟩ a4).setCell ⟨g, 5, none⟩ a5).setCell ⟨g, 6, none⟩ a6).setCell ⟨g, 7, none⟩ a7).setCell ⟨g, 8, none⟩ a8).setCell ⟨g, 9, none⟩ a9).setCell ⟨g, 10, none⟩ a10).setCell ⟨g, 11, none⟩ a11).setCell ⟨g, 12, none⟩ a12).setCell ⟨g, 13, none⟩ a13) g t #[a0, a1, a2, a3, a4, a5, a6, a7, a8, a9, a10, a11, a12, a13, c14, c15, c16] := h12.set 13 a13
  have h14 : At (((((((((((((((W.setCell ⟨g, 0, none⟩ a0).setCell ⟨g, 1, none⟩ a1).setCell ⟨g, 2, none⟩ a2).setCell ⟨g, 3, none⟩ a3).setCell ⟨g, 4, none⟩ a4).setCell ⟨g, 5, none⟩ a5).setCell ⟨g, 6, none⟩ a6).setCell ⟨g, 7, none⟩ a7).setCell ⟨g, 8, none⟩ a8).setCell ⟨g, 9, none⟩ a9).setCell ⟨g, 10, none⟩ a10).setCell ⟨g, 11, none⟩ a11).setCell ⟨g, 12, none⟩ a12).setCell ⟨g, 13, none⟩ a13).setCell ⟨g, 14, none⟩ a14) g t #[a0, a1, a2, a3, a4, a5, a6, a7, a8, a9, a10, a11, a12, a13, a14, c15, c16] := h13.set 14 a14
  have h15 : At ((((((((((((((((W.setCell ⟨g, 0, none⟩ a0).setCell ⟨g, 1, none⟩ a1).setCell ⟨g, 2, none⟩ a2).setCell ⟨g, 3, none⟩ a3).setCell ⟨g, 4, none⟩ a4).setCell ⟨g, 5, none⟩ a5).setCell ⟨g, 6, none⟩ a6).setCell ⟨g, 7, none⟩ a7).setCell ⟨g, 8, none⟩ a8).setCell ⟨g, 9, none⟩ a9).setCell ⟨g, 10, none⟩ a10).setCell ⟨g, 11, none⟩ a11).setCell ⟨g, 12, none⟩ a12).setCell ⟨g, 13, none⟩ a13).setCell ⟨g, 14, none⟩ a14).setCell ⟨g, 15, none⟩ a15) g t #[a0, a1, a2, a3, a4, a5, a6, a7, a8, a9, a10, a11, a12, a13, a14, a15, c16] := h14.set 15 a15
  have h16 : At (((((((((((((((((W.setCell ⟨g, 0, none⟩ a0).setCell ⟨g, 1, none⟩ a1).setCell ⟨g, 2, none⟩ a2).setCell ⟨g, 3, none⟩ a3).setCell ⟨g, 4, none⟩ a4).setCell ⟨g, 5, none⟩ a5).setCell ⟨g, 6, none⟩ a6).setCell ⟨g, 7, none⟩ a7).setCell ⟨g, 8, none⟩ a8).setCell ⟨g, 9, none⟩ a9).setCell ⟨g, 10, none⟩ a10).setCell ⟨g, 11, none⟩ a11).setCell ⟨g, 12, none⟩ a12).setCell ⟨g, 13, none⟩ a13).setCell ⟨g, 14, none⟩ a14).setCell ⟨g, 15, none⟩ a15).setCell ⟨g, 16, none⟩ a16) g t #[a0, a1, a2, a3, a4, a5, a6, a7, a8, a9, a10, a11, a12, a13, a14, a15, a16] := h15.set 16 a16
  exact ⟨h16, ((((((((((((((((((Only.refl (fun i => i = g) W).set (p := ⟨g, 0, none⟩) (.inl rfl) a0).set (p := ⟨g, 1, none⟩) (.inl rfl) a1).set (p := ⟨g, 2, none⟩) (.inl rfl) a2).set (p := ⟨g, 3, none⟩) (.inl rfl) a3).set (p := ⟨g, 4, none⟩) (.inl rfl) a4).set (p := ⟨g, 5, none⟩) (.inl rfl) a5).set (p := ⟨g, 6, none⟩) (.inl rfl) a6).set (p := ⟨g, 7, none⟩) (.inl rfl) a7).set (p := ⟨g, 8, none⟩) (.inl rfl) a8).set (p := ⟨g, 9, none⟩) (.inl rfl) a9).set (p := ⟨g, 10, none⟩) (.inl rfl) a10).set (p := ⟨g, 11, none⟩) (.inl rfl) a11).set (p := ⟨g, 12, none⟩) (.inl rfl) a12).set (p := ⟨g, 13, none⟩) (.inl rfl) a13).set (p := ⟨g, 14, none⟩) (.inl rfl) a14).set (p := ⟨g, 15, none⟩) (.inl rfl) a15).set (p := ⟨g, 16, none⟩) (.inl rfl) a16)⟩

theorem rv_one (r : RV) (s : St) : (r.cells s).all (·.oneCell') = true := by
  rw [← Array.all_toList]; rfl
theorem bk_one (r : RV) (s : St) : (r.bcells s).all (·.oneCell') = true := by
  rw [← Array.all_toList]; rfl
/-- An answer that is nothing. -/
abbrev zero17 : Array Value := #[.int .i64 0, .int .i64 0, .int .i64 0, .int .i64 0, .int .i64 0, .slice none 0 0, .int .i64 0, .int .i64 0, .int .i64 0, .int .i64 0, .int .i64 0, .int .i64 0, .slice none 0 0, .slice none 0 0, .slice none 0 0, .slice none 0 0, .slice none 0 0]
theorem zero17_no : ∀ x, Value.int .u64 x ∉ zero17.toList := by
  intro x h
  simp at h

set_option maxRecDepth 100000 in
set_option maxHeartbeats 1000000 in
theorem rwload_any {r : RV} {s : St} (n : Int) (w : World) (h : RefIn w r s) :
    Calls Tryz.prog 147 #[r.val s, .int .i64 n] w fun e w' => e = .returned (.tuple #[r.val (s.load n), .int .u64 (s.peek n)]) ∧ Below w.heap.size w w' := by
  have HW := Lib.hid h.words
  have HL := Lib.hid (show (s.load n).steps = tick s.words n s.steps from rfl)
  clear h
  go_enter Tryz.func147, Tryz.ntmps147
  go_upto_region 2 with (go_at_call 188; refine (rload_any (p := r.w) _ _ (HW.out.below (below_twice w _ _))).mono ?_; rintro e w1 ⟨rfl, hb1⟩)
  have A0 := ((At.new w 45 (r.cells s)).alloc (.cells zero17 45)).below' hb1
  have A1 := (At.new1 w (.cells (r.cells s) 45) 45 zero17).below' hb1
  have hs1 := hb1.size
  simp at hs1
  have B1 : Below w.heap.size w w1 := (below_twice w _ _).trans (hb1.mono (by simp; omega))
  clear hb1
  have nw : ¬ w1.heap.size = w.heap.size := by omega
  obtain ⟨⟨-, -, -, -, -, b5, b6, -, -, -, -, -, -, -, -, -, -⟩, bf, bl⟩ := at17 A0
  go_upto_region 3 with fail
  have A0' : At (((w1.setCell ⟨w.heap.size, 5, none⟩ (.slice r.w.1 s.words.length r.w.2)).setCell ⟨w.heap.size, 6, none⟩ (.int .i64 (tick s.words n s.steps))).alloc (.cells #[.slice r.w.1 s.words.length r.w.2, .int .i64 (tick s.words n s.steps)] 38)) w.heap.size 45 (r.cells (s.load n)) := ((A0.set 5 _).set 6 _).alloc _
  have A1' := ((A1.far (p := ⟨w.heap.size, 5, none⟩) (by simp) (.slice r.w.1 s.words.length r.w.2)).far (p := ⟨w.heap.size, 6, none⟩) (by simp) (.int .i64 (tick s.words n s.steps))).alloc (.cells #[.slice r.w.1 s.words.length r.w.2, .int .i64 (tick s.words n s.steps)] 38)
  have O1 := (((Only.refl (fun i => i = w.heap.size) w1).set (p := ⟨w.heap.size, 5, none⟩) (.inl rfl) (.slice r.w.1 s.words.length r.w.2)).set (p := ⟨w.heap.size, 6, none⟩) (.inl rfl) (.int .i64 (tick s.words n s.steps))).alloc (.cells #[.slice r.w.1 s.words.length r.w.2, .int .i64 (tick s.words n s.steps)] 38)
  have B3 := B1.trans (O1.below (by omega) fun i hi hn => by omega)
  clear b5 b6 bf bl A0 A1
  generalize ((w1.setCell ⟨w.heap.size, 5, none⟩ (.slice r.w.1 s.words.length r.w.2)).setCell ⟨w.heap.size, 6, none⟩ (.int .i64 (tick s.words n s.steps))).alloc (.cells #[.slice r.w.1 s.words.length r.w.2, .int .i64 (tick s.words n s.steps)] 38) = w3 at *
  refine wp_region_lit (l := [_, _, _, _]) ?_
  refine wpl_load rfl 45 (.tmp 2) rfl w.heap.size rfl (r.cells (s.load n)) _ A0' Tryz.underlying45 rfl (by kernel_rfl) ?_
  refine wpl_move rfl _ (.inl rfl) ?_
  refine wpl_store rfl 45 (.tmp 4) (.tmp 17) rfl (w.heap.size + 1) rfl (r.cells (s.load n)) zero17 rfl A1' (by kernel_rfl) rfl (rv_one _ _) ?_
  intro w4 A4 O4
  refine wpl_move rfl _ (.inr rfl) ?_
  refine wpList_nil ?_
  have B4 := B3.trans (O4.below (by have := B3.size; omega) fun i hi hn => by omega)
  clear A0' A1' O4
  go_wp2_with fail
  exact bodyPost_ret (v := .tuple #[r.val (s.load n), .int .u64 (s.peek n)]) (res_cell_tmp (fn := Tryz.f147) Tryz.results147 _ _ (w.heap.size + 1) _ _ rfl A4 Tryz.underlying45 rfl (by kernel_rfl)) rfl ⟨rfl, B4⟩

set_option maxRecDepth 100000 in
set_option maxHeartbeats 1000000 in
theorem rwswap_any {r : RV} {s : St} (n old x : Int) (w : World) (h : RefIn w r s) (hl : s.words.length ≤ 1048576) (hpos : 0 < s.words.length) :
    Calls Tryz.prog 136 #[r.val s, .int .i64 n, .int .u64 old, .int .u64 x] w (RefOut w r (fun v => .tuple #[v, .bool (s.swaps n old)]) (s.swap n old x)) := by
  have HW := Lib.hid h.words
  have HL := Lib.hid (show (s.swap n old x).steps = tick s.words n s.steps from rfl)
  clear h
  go_enter Tryz.func136, Tryz.ntmps136
  go_upto_region 2 with (go_at_call 185; refine (rswap_any (p := r.w) _ _ _ _ (HW.out.below (below_twice w _ _)) hl).mono ?_; rintro e w1 ⟨ao, cap, rfl, hr1, hb1, hao⟩)
  have A0 := ((At.new w 45 (r.cells s)).alloc (.cells zero17 45)).below' hb1
  have A1 := (At.new1 w (.cells (r.cells s) 45) 45 zero17).below' hb1
  have hs1 := hb1.size
  simp at hs1
  have B1 : Below w.heap.size w w1 := (below_twice w _ _).trans (hb1.mono (by simp; omega))
  clear hb1
  have nw : ¬ w1.heap.size = w.heap.size := by omega
  obtain ⟨⟨-, -, -, -, -, b5, b6, -, -, -, -, -, -, -, -, -, -⟩, bf, bl⟩ := at17 A0
  go_upto_region 3 with fail
  have A0' : At (((w1.setCell ⟨w.heap.size, 5, none⟩ (.slice ao (swapL s.words n old x).length cap)).setCell ⟨w.heap.size, 6, none⟩ (.int .i64 (tick s.words n s.steps))).alloc (.cells #[.slice ao (swapL s.words n old x).length cap, .int .i64 (tick s.words n s.steps)] 38)) w.heap.size 45 (RV.cells { r with w := (ao, cap) } (s.swap n old x)) := ((A0.set 5 _).set 6 _).alloc _
  have A1' := ((A1.far (p := ⟨w.heap.size, 5, none⟩) (by simp) (.slice ao (swapL s.words n old x).length cap)).far (p := ⟨w.heap.size, 6, none⟩) (by simp) (.int .i64 (tick s.words n s.steps))).alloc (.cells #[.slice ao (swapL s.words n old x).length cap, .int .i64 (tick s.words n s.steps)] 38)
  have O1 := (((Only.refl (fun i => i = w.heap.size) w1).set (p := ⟨w.heap.size, 5, none⟩) (.inl rfl) (.slice ao (swapL s.words n old x).length cap)).set (p := ⟨w.heap.size, 6, none⟩) (.inl rfl) (.int .i64 (tick s.words n s.steps))).alloc (.cells #[.slice ao (swapL s.words n old x).length cap, .int .i64 (tick s.words n s.steps)] 38)
  have B3 := B1.trans (O1.below (by omega) fun i hi hn => by omega)
  clear b5 b6 bf bl A0 A1
  generalize ((w1.setCell ⟨w.heap.size, 5, none⟩ (.slice ao (swapL s.words n old x).length cap)).setCell ⟨w.heap.size, 6, none⟩ (.int .i64 (tick s.words n s.steps))).alloc (.cells #[.slice ao (swapL s.words n old x).length cap, .int .i64 (tick s.words n s.steps)] 38) = w3 at *
  refine wp_region_lit (l := [_, _, _, _]) ?_
  refine wpl_load rfl 45 (.tmp 4) rfl w.heap.size rfl (RV.cells { r with w := (ao, cap) } (s.swap n old x)) _ A0' Tryz.underlying45 rfl (by kernel_rfl) ?_
  refine wpl_move rfl _ (.inl rfl) ?_
  refine wpl_store rfl 45 (.tmp 8) (.tmp 23) rfl (w.heap.size + 1) rfl (RV.cells { r with w := (ao, cap) } (s.swap n old x)) zero17 rfl A1' (by kernel_rfl) rfl (rv_one _ _) ?_
  intro w4 A4 O4
  refine wpl_move rfl _ (.inr rfl) ?_
  refine wpList_nil ?_
  have B4 := B3.trans (O4.below (by have := B3.size; omega) fun i hi hn => by omega)
  clear A0' A1'
  have hr4 : ReadAt w4 ao (wordsV (swapL s.words n old x)) := by
    have hne : ∀ b o, ao = some ⟨b, o, none⟩ → ¬ (b = w.heap.size) ∧ ¬ (b = w.heap.size + 1) := by
      intro b o hb
      rcases hao with h1 | ⟨g, h1, h2⟩
      · have hp : 0 < (wordsV s.words).length := by rw [wordsV_len]; exact hpos
        obtain ⟨b', o', h3, h4⟩ := read_some HW.out hp
        rw [hb, h3] at h1
        injection h1 with h1; injection h1 with h1
        omega
      · rw [hb] at h1
        injection h1 with h1; injection h1 with h1
        simp at h2
        omega
    exact (hr1.only O1 fun b o hb _ => (hne b o hb).1).only O4 fun b o hb _ => (hne b o hb).2
  clear O4 O1
  go_wp2_with fail
  exact bodyPost_ret (v := .tuple #[RV.val { r with w := (ao, cap) } (s.swap n old x), .bool (s.swaps n old)]) (res_cell_tmp (fn := Tryz.f136) Tryz.results136 _ _ (w.heap.size + 1) _ _ rfl A4 Tryz.underlying45 rfl (by kernel_rfl)) rfl ⟨(ao, cap), rfl, hr4, B4, Fr.mono (show Fr _ r.w.1 ao from hao) (by simp; omega)⟩

end Go.Proofs.YtccmjljlfgbicaaGreat
