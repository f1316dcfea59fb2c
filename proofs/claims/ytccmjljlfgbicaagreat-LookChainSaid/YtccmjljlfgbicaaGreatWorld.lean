/- Contracts of the world's steps. -/
import Derived.Test.YtccmjljlfgbicaaGreatMake
namespace Go.Proofs.YtccmjljlfgbicaaGreat
open Go.ChangeShapes Go.WideShapes Go.ChangeAt Go.RowKit

def St.nextAt (s : St) (n : Int) : Int := atOr n s.c.nodes n
def St.wordAt (s : St) (n : Int) : Int := atOr n s.c.ops (s.c.nodes + n)
/-- A step that reads a place, lays a word there, or lays one in place of another one. -/
def St.load (s : St) (p : Int) : St := { s with steps := tick s.words p s.steps }
def St.store (s : St) (p x : Int) : St := { s with words := storeL s.words p x, steps := tick s.words p s.steps }
def St.swap (s : St) (p old x : Int) : St := { s with words := swapL s.words p old x, steps := tick s.words p s.steps }
def St.peek (s : St) (p : Int) : Int := peekL s.words p
def St.swaps (s : St) (p old : Int) : Bool := swapB s.words p old

theorem ok_load {s : St} (h : s.ok) (p : Int) : (s.load p).ok := ⟨h.may, h.thr, h.len, h.words, h.counts, h.ops, h.nodes⟩
theorem ok_words {s : St} (h : s.ok) {l : List Int} {n : Int} (hl : l.length = s.words.length) (hw : ∀ x ∈ l, 0 ≤ x ∧ x ≤ 18446744073709551615) : St.ok { s with words := l, steps := n } :=
  ⟨h.may, h.thr, by show (l.length : Int) = _; rw [hl]; exact h.len, hw, h.counts, h.ops, h.nodes⟩
theorem set_fits {l : List Int} {i : Nat} {x : Int} (hl : ∀ y ∈ l, 0 ≤ y ∧ y ≤ 18446744073709551615) (hx : 0 ≤ x ∧ x ≤ 18446744073709551615) : ∀ y ∈ l.set i x, 0 ≤ y ∧ y ≤ 18446744073709551615 := by
  intro y hy
  rcases List.mem_or_eq_of_mem_set hy with hy | rfl
  · exact hl y hy
  · exact hx
theorem ok_store {s : St} (h : s.ok) (p : Int) {x : Int} (hx : 0 ≤ x ∧ x ≤ 18446744073709551615) : (s.store p x).ok := by
  unfold St.store storeL
  split
  · exact ok_words h (by simp) (set_fits h.words hx)
  · exact ok_words h rfl h.words
theorem ok_swap {s : St} (h : s.ok) (p old : Int) {x : Int} (hx : 0 ≤ x ∧ x ≤ 18446744073709551615) : (s.swap p old x).ok := by
  unfold St.swap swapL
  split
  · exact ok_words h (by simp) (set_fits h.words hx)
  · exact ok_words h rfl h.words
theorem peek_range {s : St} (h : s.ok) (p : Int) : 0 ≤ s.peek p ∧ s.peek p ≤ 18446744073709551615 := by
  unfold St.peek peekL
  split
  · rename_i hp
    have hk : p.toNat < s.words.length := by omega
    rw [List.getD_eq_getElem?_getD, List.getElem?_eq_getElem hk]
    exact h.words _ (List.getElem_mem hk)
  · omega

theorem Holds.fresh {k : Blks} {s : St} {W : World} (h : Holds k s W) {i : Nat} (hi : W.heap.size ≤ i) : ¬ Own k i := by
  have h1 := h.cells.head.lt
  have h2 := h.cells.words.lt
  have h3 := h.thr.lt
  have h4 := h.ops.lt
  have h5 := h.nodes.lt
  rintro (e | e | e | e | e) <;> omega
theorem Only.cell {S : Nat → Prop} {w w' : World} (h : Only S w w') {b i : Nat} (hb : b < w.heap.size) (hS : ¬ S b) : w'.cell? ⟨b, i, none⟩ = w.cell? ⟨b, i, none⟩ := World.cell?_of_block (h.block b hb hS)
theorem cs_own {k : Blks} {i : Nat} (h : ¬ Own k i) : ¬ CS k.bc k.bx i := fun e => h (e.elim .inl (fun e => .inr (.inl e)))
theorem lt_of_cell {w : World} {b i : Nat} {v : Value} (h : w.cell? ⟨b, i, none⟩ = some v) : b < w.heap.size := World.block_lt_of_cell? w ⟨b, i, none⟩ h

theorem Holds.cells' {k : Blks} {s : St} {W W' : World} (h : Holds k s W) (hb : Below W.drew.heap.size W.drew W') : CellsAt W' k.bc k.bx s.words s.steps := (h.drew.below hb).cells
theorem Holds.then {k : Blks} {s : St} {W W2 W3 : World} (h : Holds k s W) (hb : Below W.drew.heap.size W.drew W2) {l : List Int} {n : Int} (hO : Only (CS k.bc k.bx) W2 W3) (hC : CellsAt W3 k.bc k.bx l n) (hok : St.ok { s with words := l, steps := n }) :
    Holds k { s with words := l, steps := n } W3 ∧ Only (Own k) W W3 :=
  ⟨(h.drew.below hb).turned hO hC hok, (Only.ofBelow _ ((Below.refl _ W).drew.trans hb)).trans (only_own hO)⟩

set_option maxRecDepth 100000 in
set_option maxHeartbeats 2000000 in
theorem next1_any {k : Blks} {s : St} (n : Int) (cw cn : Nat) (w : World) (h : Holds k s w) (q0 : w.cell? ⟨cw, 0, none⟩ = some (.pointer (some ⟨k.bw, 0, none⟩))) (q1 : w.cell? ⟨cn, 0, none⟩ = some (.int .i64 n)) (n0 : ¬ Own k cw) (n1 : ¬ Own k cn) :
    Calls Tryz.prog 102 #[.pointer (some ⟨cw, 0, none⟩), .pointer (some ⟨cn, 0, none⟩)] w fun e w' => e = .returned (.int .u64 (s.peek (s.nextAt n))) ∧ Holds k (s.load (s.nextAt n)) w' ∧ Only (Own k) w w' := by
  obtain ⟨⟨g0, g1, g2, g3, g4⟩, g5, g6, gl⟩ := h.wfacts
  have l0 := lt_of_cell q0
  have N0 := cs_own n0
  have l1 := lt_of_cell q1
  have N1 := cs_own n1
  have HM := Lib.hid h.ok.may
  have NW := cs_own h.ne_w
  go_enter Tryz.func102, Tryz.ntmps102
  go_wp2_with fail
  go_region_held3 (fun w' => w'.cell? ⟨cw, 0, none⟩ = some (.pointer (some ⟨k.bw, 0, none⟩)) ∧ w'.cell? ⟨cn, 0, none⟩ = some (.int .i64 n) ∧ w'.cell? ⟨k.bw, 0, none⟩ = some (.int .i64 s.c.threads) ∧ w'.cell? ⟨k.bw, 1, none⟩ = some (.int .i64 s.c.buckets) ∧ w'.cell? ⟨k.bw, 2, none⟩ = some (.int .i64 s.c.inserts) ∧ w'.cell? ⟨k.bw, 3, none⟩ = some (.int .i64 s.c.fuel) ∧ w'.cell? ⟨k.bw, 4, none⟩ = some (.int .i64 s.c.calls) ∧ w'.cell? ⟨k.bw, 5, none⟩ = some (.pointer (some ⟨k.bc, 0, none⟩)))
    (first
      | go_keep
      | (refine ⟨?_, ?_, ?_, ?_, ?_, ?_, ?_, ?_⟩ <;> (rw [hb2.cell (by simp; omega)]; go_simp))
      | (go_split_ands; refine ⟨?_, ?_, ?_, ?_, ?_, ?_, ?_, ?_⟩ <;> (rw [hO.cell (by have := hb2.size; simp at this; omega) (by assumption)]; assumption)))
    ((first | (go_at_call 103; refine (next_any s.c _ _).mono ?_; rintro e w2 ⟨rfl, hb2⟩) | (go_at_call 100; refine (load_any _ _ (h.cells' hb2)).mono ?_; rintro e w3 ⟨rfl, hC, hO⟩)))
  all_goals
    go_wp2
    go_ret
    exact ⟨rfl, h.then hb2 hO hC (ok_load h.ok _)⟩

set_option maxRecDepth 100000 in
set_option maxHeartbeats 2000000 in
theorem word1_any {k : Blks} {s : St} (n : Int) (cw cn : Nat) (w : World) (h : Holds k s w) (q0 : w.cell? ⟨cw, 0, none⟩ = some (.pointer (some ⟨k.bw, 0, none⟩))) (q1 : w.cell? ⟨cn, 0, none⟩ = some (.int .i64 n)) (n0 : ¬ Own k cw) (n1 : ¬ Own k cn) :
    Calls Tryz.prog 99 #[.pointer (some ⟨cw, 0, none⟩), .pointer (some ⟨cn, 0, none⟩)] w fun e w' => e = .returned (.int .u64 (s.peek (s.wordAt n))) ∧ Holds k (s.load (s.wordAt n)) w' ∧ Only (Own k) w w' := by
  obtain ⟨⟨g0, g1, g2, g3, g4⟩, g5, g6, gl⟩ := h.wfacts
  have l0 := lt_of_cell q0
  have N0 := cs_own n0
  have l1 := lt_of_cell q1
  have N1 := cs_own n1
  have HM := Lib.hid h.ok.may
  have NW := cs_own h.ne_w
  go_enter Tryz.func99, Tryz.ntmps99
  go_wp2_with fail
  go_region_held3 (fun w' => w'.cell? ⟨cw, 0, none⟩ = some (.pointer (some ⟨k.bw, 0, none⟩)) ∧ w'.cell? ⟨cn, 0, none⟩ = some (.int .i64 n) ∧ w'.cell? ⟨k.bw, 0, none⟩ = some (.int .i64 s.c.threads) ∧ w'.cell? ⟨k.bw, 1, none⟩ = some (.int .i64 s.c.buckets) ∧ w'.cell? ⟨k.bw, 2, none⟩ = some (.int .i64 s.c.inserts) ∧ w'.cell? ⟨k.bw, 3, none⟩ = some (.int .i64 s.c.fuel) ∧ w'.cell? ⟨k.bw, 4, none⟩ = some (.int .i64 s.c.calls) ∧ w'.cell? ⟨k.bw, 5, none⟩ = some (.pointer (some ⟨k.bc, 0, none⟩)))
    (first
      | go_keep
      | (refine ⟨?_, ?_, ?_, ?_, ?_, ?_, ?_, ?_⟩ <;> (rw [hb2.cell (by simp; omega)]; go_simp))
      | (go_split_ands; refine ⟨?_, ?_, ?_, ?_, ?_, ?_, ?_, ?_⟩ <;> (rw [hO.cell (by have := hb2.size; simp at this; omega) (by assumption)]; assumption)))
    ((first | (go_at_call 101; refine (word_any s.c _ _ HM.out).mono ?_; rintro e w2 ⟨rfl, hb2⟩) | (go_at_call 100; refine (load_any _ _ (h.cells' hb2)).mono ?_; rintro e w3 ⟨rfl, hC, hO⟩)))
  all_goals
    go_wp2
    go_ret
    exact ⟨rfl, h.then hb2 hO hC (ok_load h.ok _)⟩

set_option maxRecDepth 100000 in
set_option maxHeartbeats 2000000 in
theorem link1_any {k : Blks} {s : St} (n old x : Int) (cw cn co cx : Nat) (w : World) (h : Holds k s w) (q0 : w.cell? ⟨cw, 0, none⟩ = some (.pointer (some ⟨k.bw, 0, none⟩))) (q1 : w.cell? ⟨cn, 0, none⟩ = some (.int .i64 n)) (q2 : w.cell? ⟨co, 0, none⟩ = some (.int .u64 old)) (q3 : w.cell? ⟨cx, 0, none⟩ = some (.int .u64 x)) (n0 : ¬ Own k cw) (n1 : ¬ Own k cn) (n2 : ¬ Own k co) (n3 : ¬ Own k cx) (hx : 0 ≤ x ∧ x ≤ 18446744073709551615) :
    Calls Tryz.prog 189 #[.pointer (some ⟨cw, 0, none⟩), .pointer (some ⟨cn, 0, none⟩), .pointer (some ⟨co, 0, none⟩), .pointer (some ⟨cx, 0, none⟩)] w fun e w' => e = .returned (.bool (s.swaps (s.nextAt n) old)) ∧ Holds k (s.swap (s.nextAt n) old x) w' ∧ Only (Own k) w w' := by
  obtain ⟨⟨g0, g1, g2, g3, g4⟩, g5, g6, gl⟩ := h.wfacts
  have l0 := lt_of_cell q0
  have N0 := cs_own n0
  have l1 := lt_of_cell q1
  have N1 := cs_own n1
  have l2 := lt_of_cell q2
  have N2 := cs_own n2
  have l3 := lt_of_cell q3
  have N3 := cs_own n3
  have HM := Lib.hid h.ok.may
  have NW := cs_own h.ne_w
  go_enter Tryz.func189, Tryz.ntmps189
  go_wp2_with fail
  go_region_held3 (fun w' => w'.cell? ⟨cw, 0, none⟩ = some (.pointer (some ⟨k.bw, 0, none⟩)) ∧ w'.cell? ⟨cn, 0, none⟩ = some (.int .i64 n) ∧ w'.cell? ⟨co, 0, none⟩ = some (.int .u64 old) ∧ w'.cell? ⟨cx, 0, none⟩ = some (.int .u64 x) ∧ w'.cell? ⟨k.bw, 0, none⟩ = some (.int .i64 s.c.threads) ∧ w'.cell? ⟨k.bw, 1, none⟩ = some (.int .i64 s.c.buckets) ∧ w'.cell? ⟨k.bw, 2, none⟩ = some (.int .i64 s.c.inserts) ∧ w'.cell? ⟨k.bw, 3, none⟩ = some (.int .i64 s.c.fuel) ∧ w'.cell? ⟨k.bw, 4, none⟩ = some (.int .i64 s.c.calls) ∧ w'.cell? ⟨k.bw, 5, none⟩ = some (.pointer (some ⟨k.bc, 0, none⟩)))
    (first
      | go_keep
      | (refine ⟨?_, ?_, ?_, ?_, ?_, ?_, ?_, ?_, ?_, ?_⟩ <;> (rw [hb2.cell (by simp; omega)]; go_simp))
      | (go_split_ands; refine ⟨?_, ?_, ?_, ?_, ?_, ?_, ?_, ?_, ?_, ?_⟩ <;> (rw [hO.cell (by have := hb2.size; simp at this; omega) (by assumption)]; assumption)))
    ((first | (go_at_call 103; refine (next_any s.c _ _).mono ?_; rintro e w2 ⟨rfl, hb2⟩) | (go_at_call 111; refine (swap_any _ _ _ _ (h.cells' hb2)).mono ?_; rintro e w3 ⟨rfl, hC, hO⟩)))
  all_goals
    go_wp2
    go_ret
    exact ⟨rfl, h.then hb2 hO hC (ok_swap h.ok _ _ hx)⟩

set_option maxRecDepth 100000 in
set_option maxHeartbeats 2000000 in
theorem turn1_any {k : Blks} {s : St} (n old x : Int) (cw cn co cx : Nat) (w : World) (h : Holds k s w) (q0 : w.cell? ⟨cw, 0, none⟩ = some (.pointer (some ⟨k.bw, 0, none⟩))) (q1 : w.cell? ⟨cn, 0, none⟩ = some (.int .i64 n)) (q2 : w.cell? ⟨co, 0, none⟩ = some (.int .u64 old)) (q3 : w.cell? ⟨cx, 0, none⟩ = some (.int .u64 x)) (n0 : ¬ Own k cw) (n1 : ¬ Own k cn) (n2 : ¬ Own k co) (n3 : ¬ Own k cx) (hx : 0 ≤ x ∧ x ≤ 18446744073709551615) :
    Calls Tryz.prog 110 #[.pointer (some ⟨cw, 0, none⟩), .pointer (some ⟨cn, 0, none⟩), .pointer (some ⟨co, 0, none⟩), .pointer (some ⟨cx, 0, none⟩)] w fun e w' => e = .returned (.bool (s.swaps (s.wordAt n) old)) ∧ Holds k (s.swap (s.wordAt n) old x) w' ∧ Only (Own k) w w' := by
  obtain ⟨⟨g0, g1, g2, g3, g4⟩, g5, g6, gl⟩ := h.wfacts
  have l0 := lt_of_cell q0
  have N0 := cs_own n0
  have l1 := lt_of_cell q1
  have N1 := cs_own n1
  have l2 := lt_of_cell q2
  have N2 := cs_own n2
  have l3 := lt_of_cell q3
  have N3 := cs_own n3
  have HM := Lib.hid h.ok.may
  have NW := cs_own h.ne_w
  go_enter Tryz.func110, Tryz.ntmps110
  go_wp2_with fail
  go_region_held3 (fun w' => w'.cell? ⟨cw, 0, none⟩ = some (.pointer (some ⟨k.bw, 0, none⟩)) ∧ w'.cell? ⟨cn, 0, none⟩ = some (.int .i64 n) ∧ w'.cell? ⟨co, 0, none⟩ = some (.int .u64 old) ∧ w'.cell? ⟨cx, 0, none⟩ = some (.int .u64 x) ∧ w'.cell? ⟨k.bw, 0, none⟩ = some (.int .i64 s.c.threads) ∧ w'.cell? ⟨k.bw, 1, none⟩ = some (.int .i64 s.c.buckets) ∧ w'.cell? ⟨k.bw, 2, none⟩ = some (.int .i64 s.c.inserts) ∧ w'.cell? ⟨k.bw, 3, none⟩ = some (.int .i64 s.c.fuel) ∧ w'.cell? ⟨k.bw, 4, none⟩ = some (.int .i64 s.c.calls) ∧ w'.cell? ⟨k.bw, 5, none⟩ = some (.pointer (some ⟨k.bc, 0, none⟩)))
    (first
      | go_keep
      | (refine ⟨?_, ?_, ?_, ?_, ?_, ?_, ?_, ?_, ?_, ?_⟩ <;> (rw [hb2.cell (by simp; omega)]; go_simp))
      | (go_split_ands; refine ⟨?_, ?_, ?_, ?_, ?_, ?_, ?_, ?_, ?_, ?_⟩ <;> (rw [hO.cell (by have := hb2.size; simp at this; omega) (by assumption)]; assumption)))
    ((first | (go_at_call 101; refine (word_any s.c _ _ HM.out).mono ?_; rintro e w2 ⟨rfl, hb2⟩) | (go_at_call 111; refine (swap_any _ _ _ _ (h.cells' hb2)).mono ?_; rintro e w3 ⟨rfl, hC, hO⟩)))
  all_goals
    go_wp2
    go_ret
    exact ⟨rfl, h.then hb2 hO hC (ok_swap h.ok _ _ hx)⟩

set_option maxRecDepth 100000 in
set_option maxHeartbeats 1000000 in
theorem wnext_any {k : Blks} {s : St} (n : Int) (w : World) (h : Holds k s w) :
    Calls Tryz.prog 39 #[.pointer (some ⟨k.bw, 0, none⟩), .int .i64 n] w fun e w' => e = .returned (.int .u64 (s.peek (s.nextAt n))) ∧ Holds k (s.load (s.nextAt n)) w' ∧ Only (Own k) w w' := by
  go_enter Tryz.func39, Tryz.ntmps39
  go_wp2_with (first | (go_at_call 98; go_in) | (go_at_call 102; refine (next1_any n _ _ _ ((h.alloc _).alloc _) (by go_simp) (by go_simp) (h.fresh (by simp)) (h.fresh (by simp))).mono ?_; rintro e w1 ⟨rfl, hH, hO⟩))
  go_ret
  exact ⟨rfl, hH, (((Only.refl _ _).alloc _).alloc _).trans hO⟩

set_option maxRecDepth 100000 in
set_option maxHeartbeats 1000000 in
theorem wword_any {k : Blks} {s : St} (n : Int) (w : World) (h : Holds k s w) :
    Calls Tryz.prog 37 #[.pointer (some ⟨k.bw, 0, none⟩), .int .i64 n] w fun e w' => e = .returned (.int .u64 (s.peek (s.wordAt n))) ∧ Holds k (s.load (s.wordAt n)) w' ∧ Only (Own k) w w' := by
  go_enter Tryz.func37, Tryz.ntmps37
  go_wp2_with (first | (go_at_call 98; go_in) | (go_at_call 99; refine (word1_any n _ _ _ ((h.alloc _).alloc _) (by go_simp) (by go_simp) (h.fresh (by simp)) (h.fresh (by simp))).mono ?_; rintro e w1 ⟨rfl, hH, hO⟩))
  go_ret
  exact ⟨rfl, hH, (((Only.refl _ _).alloc _).alloc _).trans hO⟩

set_option maxRecDepth 100000 in
set_option maxHeartbeats 1000000 in
theorem wlink_any {k : Blks} {s : St} (n old x : Int) (w : World) (h : Holds k s w) (hx : 0 ≤ x ∧ x ≤ 18446744073709551615) :
    Calls Tryz.prog 154 #[.pointer (some ⟨k.bw, 0, none⟩), .int .i64 n, .int .u64 old, .int .u64 x] w fun e w' => e = .returned (.bool (s.swaps (s.nextAt n) old)) ∧ Holds k (s.swap (s.nextAt n) old x) w' ∧ Only (Own k) w w' := by
  go_enter Tryz.func154, Tryz.ntmps154
  go_wp2_with (first | (go_at_call 109; go_in) | (go_at_call 189; refine (link1_any n old x _ _ _ _ _ ((((h.alloc _).alloc _).alloc _).alloc _) (by go_simp) (by go_simp) (by go_simp) (by go_simp) (h.fresh (by omega)) (h.fresh (by omega)) (h.fresh (by omega)) (h.fresh (by omega)) hx).mono ?_; rintro e w1 ⟨rfl, hH, hO⟩))
  go_ret
  exact ⟨rfl, hH, (((((Only.refl _ _).alloc _).alloc _).alloc _).alloc _).trans hO⟩

set_option maxRecDepth 100000 in
set_option maxHeartbeats 1000000 in
theorem wturn_any {k : Blks} {s : St} (n old x : Int) (w : World) (h : Holds k s w) (hx : 0 ≤ x ∧ x ≤ 18446744073709551615) :
    Calls Tryz.prog 47 #[.pointer (some ⟨k.bw, 0, none⟩), .int .i64 n, .int .u64 old, .int .u64 x] w fun e w' => e = .returned (.bool (s.swaps (s.wordAt n) old)) ∧ Holds k (s.swap (s.wordAt n) old x) w' ∧ Only (Own k) w w' := by
  go_enter Tryz.func47, Tryz.ntmps47
  go_wp2_with (first | (go_at_call 109; go_in) | (go_at_call 110; refine (turn1_any n old x _ _ _ _ _ ((((h.alloc _).alloc _).alloc _).alloc _) (by go_simp) (by go_simp) (by go_simp) (by go_simp) (h.fresh (by omega)) (h.fresh (by omega)) (h.fresh (by omega)) (h.fresh (by omega)) hx).mono ?_; rintro e w1 ⟨rfl, hH, hO⟩))
  go_ret
  exact ⟨rfl, hH, (((((Only.refl _ _).alloc _).alloc _).alloc _).alloc _).trans hO⟩

end Go.Proofs.YtccmjljlfgbicaaGreat
