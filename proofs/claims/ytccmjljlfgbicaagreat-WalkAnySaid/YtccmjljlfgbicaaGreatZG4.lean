/- Contracts of the cells: words that threads share, and how many steps there were. -/
import Derived.Test.YtccmjljlfgbicaaGreatZG3
namespace Go.Proofs.YtccmjljlfgbicaaGreat
open Go.ChangeShapes Go.WideShapes Go.ChangeAt Go.RowKit

/-- The words, as values. -/
def wordsOf (l : List Int) : Array Value := (l.map (Value.int .u64)).toArray
theorem wordsOf_get (l : List Int) (i : Nat) (x : Int) (h : l[i]? = some x) : (wordsOf l)[i]? = some (.int .u64 x) := by simp [wordsOf, h]
theorem wordsOf_set (l : List Int) (i : Nat) (x : Int) : (wordsOf l).setIfInBounds i (.int .u64 x) = wordsOf (l.set i x) := by
  simp [wordsOf, List.map_set]

/-- The cells at block bc, their words at block bx. -/
structure CellsAt (w : World) (bc bx : Nat) (l : List Int) (steps : Int) : Prop where
  head : At w bc 143 #[.slice (some ⟨bx, 0, none⟩) l.length l.length, .int .i64 steps]
  words : At w bx 166 (wordsOf l)
  small : l.length ≤ 1048576

theorem CellsAt.ne {w : World} {bc bx : Nat} {l : List Int} {s : Int} (h : CellsAt w bc bx l s) : bc ≠ bx := h.head.ne h.words (by decide)
theorem CellsAt.only {w w' : World} {bc bx : Nat} {l : List Int} {s : Int} {S : Nat → Prop} (h : CellsAt w bc bx l s) (ho : Only S w w') (h1 : ¬ S bc) (h2 : ¬ S bx) : CellsAt w' bc bx l s :=
  ⟨h.head.only ho h1, h.words.only ho h2, h.small⟩
theorem CellsAt.below {w w' : World} {bc bx : Nat} {l : List Int} {s : Int} (h : CellsAt w bc bx l s) (ho : Below w.heap.size w w') : CellsAt w' bc bx l s :=
  ⟨h.head.below' ho, h.words.below' ho, h.small⟩

/-- The facts that a walk wants of cells: the head's two, neither frozen. -/
theorem CellsAt.facts {w : World} {bc bx : Nat} {l : List Int} {s : Int} (h : CellsAt w bc bx l s) :
    w.cell? ⟨bc, 0, none⟩ = some (.slice (some ⟨bx, 0, none⟩) l.length l.length) ∧ w.cell? ⟨bc, 1, none⟩ = some (.int .i64 s) ∧ w.frozen? ⟨bc, 1, none⟩ = false ∧ bc < w.heap.size ∧ bx < w.heap.size :=
  ⟨h.head.cell 0, h.head.cell 1, h.head.frozen 1, h.head.lt, h.words.lt⟩
theorem CellsAt.word {w : World} {bc bx : Nat} {l : List Int} {s : Int} (h : CellsAt w bc bx l s) {i : Nat} {x : Int} (hx : l[i]? = some x) :
    w.cell? ⟨bx, i, none⟩ = some (.int .u64 x) ∧ w.frozen? ⟨bx, i, none⟩ = false :=
  ⟨(h.words.cell i).trans (wordsOf_get l i x hx), h.words.frozen i⟩

set_option maxHeartbeats 400000 in
theorem clen_any {bc bx : Nat} {l : List Int} {s : Int} (w : World) (h : CellsAt w bc bx l s) :
    Calls Tryz.prog 80 #[.pointer (some ⟨bc, 0, none⟩)] w fun e w' => e = .returned (.int .i64 l.length) ∧ w = w' := by
  obtain ⟨h0, h1, h2, h3, h4⟩ := h.facts
  go_enter Tryz.func80, Tryz.ntmps80
  go_wp2
  go_ret
  exact ⟨rfl, rfl⟩

set_option maxHeartbeats 400000 in
theorem steps_any {bc bx : Nat} {l : List Int} {s : Int} (w : World) (h : CellsAt w bc bx l s) :
    Calls Tryz.prog 24 #[.pointer (some ⟨bc, 0, none⟩)] w fun e w' => e = .returned (.int .i64 s) ∧ w = w' := by
  obtain ⟨h0, h1, h2, h3, h4⟩ := h.facts
  go_enter Tryz.func24, Tryz.ntmps24
  go_wp2_with (go_at_call 81; refine (asteps_any _ s _ h1).mono ?_; rintro e w1 ⟨rfl, rfl⟩)
  go_ret
  exact ⟨rfl, rfl⟩

/-- A word; 0, if there is none. -/
def peekL (l : List Int) (n : Int) : Int := if 0 ≤ n ∧ n < (l.length : Int) then l.getD n.toNat 0 else 0
theorem peekL_in {l : List Int} {k : Nat} {x : Int} (hx : l[k]? = some x) : peekL l (k : Int) = x := by
  have hk : k < l.length := by
    rcases Nat.lt_or_ge k l.length with h | h
    · exact h
    · rw [List.getElem?_eq_none h] at hx; cases hx
  unfold peekL; rw [if_pos (by omega)]; simp [hx]
theorem peekL_out {l : List Int} {n : Int} (h : ¬ (0 ≤ n ∧ n < (l.length : Int))) : peekL l n = 0 := by unfold peekL; rw [if_neg h]

set_option maxHeartbeats 400000 in
theorem peek_any {bc bx : Nat} {l : List Int} {s : Int} (n : Int) (w : World) (h : CellsAt w bc bx l s) :
    Calls Tryz.prog 45 #[.pointer (some ⟨bc, 0, none⟩), .int .i64 n] w fun e w' => e = .returned (.int .u64 (peekL l n)) ∧ w = w' := by
  obtain ⟨h0, h1, h2, h3, h4⟩ := h.facts
  have hs := h.small
  by_cases k0 : 0 ≤ n
  · by_cases k1 : n < (l.length : Int)
    · obtain ⟨k, rfl⟩ := Int.eq_ofNat_of_zero_le k0
      have hk : k < l.length := by omega
      obtain ⟨x, hx⟩ : ∃ x, l[k]? = some x := ⟨l[k], List.getElem?_eq_getElem hk⟩
      obtain ⟨c0, c1⟩ := h.word hx
      have Hx := Lib.hid hx
      clear hx
      go_enter Tryz.func45, Tryz.ntmps45
      go_wp2_with (first | (go_at_call 80; refine (clen_any _ h).mono ?_; rintro e w1 ⟨rfl, rfl⟩) | (go_at_call 106; refine (aload_any _ x _ c0).mono ?_; rintro e w1 ⟨rfl, rfl⟩))
      go_ret
      exact ⟨ret_u (peekL_in Hx.out).symm, rfl⟩
    · go_enter Tryz.func45, Tryz.ntmps45
      go_wp2_with (first | (go_at_call 80; refine (clen_any _ h).mono ?_; rintro e w1 ⟨rfl, rfl⟩))
      go_ret
      exact ⟨ret_u (peekL_out (by omega)).symm, rfl⟩
  · go_enter Tryz.func45, Tryz.ntmps45
    go_wp2_with (first | (go_at_call 80; refine (clen_any _ h).mono ?_; rintro e w1 ⟨rfl, rfl⟩))
    go_ret
    exact ⟨ret_u (peekL_out (by omega)).symm, rfl⟩

theorem CellsAt.alloc {w : World} {bc bx : Nat} {l : List Int} {s : Int} (h : CellsAt w bc bx l s) (o : Obj) : CellsAt (w.alloc o) bc bx l s :=
  ⟨h.head.alloc o, h.words.alloc o, h.small⟩
theorem CellsAt.far {w : World} {bc bx : Nat} {l : List Int} {s : Int} (h : CellsAt w bc bx l s) {p : Addr} (h1 : bc ≠ p.block) (h2 : bx ≠ p.block) (u : Value) : CellsAt (w.setCell p u) bc bx l s :=
  ⟨h.head.far h1 u, h.words.far h2 u, h.small⟩
theorem CellsAt.put {w : World} {bc bx : Nat} {l : List Int} {s : Int} (h : CellsAt w bc bx l s) (i : Nat) (x : Int) : CellsAt (w.setCell ⟨bx, i, none⟩ (.int .u64 x)) bc bx (l.set i x) s :=
  ⟨by rw [List.length_set]; exact h.head.far (p := ⟨bx, i, none⟩) h.ne _, by rw [← wordsOf_set]; exact h.words.set i _, by rw [List.length_set]; exact h.small⟩
theorem CellsAt.count {w : World} {bc bx : Nat} {l : List Int} {s : Int} (h : CellsAt w bc bx l s) (s' : Int) : CellsAt (w.setCell ⟨bc, 1, none⟩ (.int .i64 s')) bc bx l s' :=
  ⟨h.head.set 1 (.int .i64 s'), h.words.far (p := ⟨bc, 1, none⟩) (Ne.symm h.ne) _, h.small⟩

/-- Is there such a place? -/
def inL (l : List Int) (n : Int) : Bool := decide (0 ≤ n ∧ n < (l.length : Int))
/-- The count of steps, behind one at a place. -/
def tick (l : List Int) (n s : Int) : Int := if inL l n then wrap64 (s + 1) else s
/-- The words, behind one that was laid. -/
def storeL (l : List Int) (n x : Int) : List Int := if inL l n then l.set n.toNat x else l
/-- Does a word stand there, at a place that there is? -/
def swapB (l : List Int) (n old : Int) : Bool := inL l n && peekL l n == old
/-- The words, behind one that was laid in place of another. -/
def swapL (l : List Int) (n old x : Int) : List Int := if swapB l n old then l.set n.toNat x else l

theorem inL_nat {l : List Int} {k : Nat} (h : k < l.length) : inL l (k : Int) = true := by unfold inL; simp; exact h
theorem inL_cases (l : List Int) (n : Int) : (∃ k : Nat, n = k ∧ k < l.length ∧ inL l n = true) ∨ (n < 0 ∧ inL l n = false) ∨ (0 ≤ n ∧ (l.length : Int) ≤ n ∧ inL l n = false) := by
  by_cases h0 : 0 ≤ n
  · by_cases h1 : n < (l.length : Int)
    · exact .inl ⟨n.toNat, by omega, by omega, by unfold inL; exact decide_eq_true ⟨h0, h1⟩⟩
    · exact .inr (.inr ⟨h0, by omega, by unfold inL; exact decide_eq_false (by omega)⟩)
  · exact .inr (.inl ⟨by omega, by unfold inL; exact decide_eq_false (by omega)⟩)

/-- The blocks of cells. -/
def CS (bc bx : Nat) (i : Nat) : Prop := i = bc ∨ i = bx

set_option maxHeartbeats 1000000 in
theorem load_any {bc bx : Nat} {l : List Int} {s : Int} (n : Int) (w : World) (h : CellsAt w bc bx l s) :
    Calls Tryz.prog 100 #[.pointer (some ⟨bc, 0, none⟩), .int .i64 n] w fun e w' => e = .returned (.int .u64 (peekL l n)) ∧ CellsAt w' bc bx l (tick l n s) ∧ Only (CS bc bx) w w' := by
  obtain ⟨h0, h1, h2, h3, h4⟩ := h.facts
  have hs := h.small
  rcases inL_cases l n with ⟨k, rfl, hk, hi⟩ | ⟨k0, hi⟩ | ⟨k0, k1, hi⟩
  · obtain ⟨x, hx⟩ : ∃ x, l[k]? = some x := ⟨l[k], List.getElem?_eq_getElem hk⟩
    obtain ⟨c0, c1⟩ := h.word hx
    have Ht := Lib.hid (show tick l (k : Int) s = wrap64 (s + 1) by unfold tick; rw [hi]; rfl)
    have Hx := Lib.hid hx
    clear hx hi
    go_enter Tryz.func100, Tryz.ntmps100
    go_wp2_with (first | (go_at_call 168; go_in) | (go_at_call 80; refine (clen_any _ (h.alloc _)).mono ?_; rintro e w1 ⟨rfl, rfl⟩) | (go_at_call 169; go_in) | (go_at_call 106; refine (aload_any _ x _ (by go_simp)).mono ?_; rintro e w1 ⟨rfl, rfl⟩) | (go_at_call 195; refine (aadd_any _ s _ (by go_simp) (by go_simp)).mono ?_; rintro e w1 ⟨rfl, rfl⟩))
    go_ret
    exact ⟨ret_u (peekL_in Hx.out).symm, by rw [Ht.out]; exact (h.count _).alloc _, ((Only.refl _ _).set (.inl (.inl rfl)) _).alloc _⟩
  · have Hi := Lib.hid hi
    clear hi
    go_enter Tryz.func100, Tryz.ntmps100
    go_wp2_with (first | (go_at_call 168; go_in) | (go_at_call 80; refine (clen_any _ (h.alloc _)).mono ?_; rintro e w1 ⟨rfl, rfl⟩) | (go_at_call 169; go_in) | (go_at_call 106; refine (aload_any _ x _ (by go_simp)).mono ?_; rintro e w1 ⟨rfl, rfl⟩) | (go_at_call 195; refine (aadd_any _ s _ (by go_simp) (by go_simp)).mono ?_; rintro e w1 ⟨rfl, rfl⟩))
    go_ret
    exact ⟨ret_u (peekL_out (by omega)).symm, by unfold tick; rw [Hi.out]; exact h.alloc _, (Only.refl _ _).alloc _⟩
  · have Hi := Lib.hid hi
    clear hi
    go_enter Tryz.func100, Tryz.ntmps100
    go_wp2_with (first | (go_at_call 168; go_in) | (go_at_call 80; refine (clen_any _ (h.alloc _)).mono ?_; rintro e w1 ⟨rfl, rfl⟩) | (go_at_call 169; go_in) | (go_at_call 106; refine (aload_any _ x _ (by go_simp)).mono ?_; rintro e w1 ⟨rfl, rfl⟩) | (go_at_call 195; refine (aadd_any _ s _ (by go_simp) (by go_simp)).mono ?_; rintro e w1 ⟨rfl, rfl⟩))
    go_ret
    exact ⟨ret_u (peekL_out (by omega)).symm, by unfold tick; rw [Hi.out]; exact h.alloc _, (Only.refl _ _).alloc _⟩

set_option maxHeartbeats 1000000 in
theorem store_any {bc bx : Nat} {l : List Int} {s : Int} (n y : Int) (w : World) (h : CellsAt w bc bx l s) :
    Calls Tryz.prog 129 #[.pointer (some ⟨bc, 0, none⟩), .int .i64 n, .int .u64 y] w fun e w' => e = .returned (.tuple #[]) ∧ CellsAt w' bc bx (storeL l n y) (tick l n s) ∧ Only (CS bc bx) w w' := by
  obtain ⟨h0, h1, h2, h3, h4⟩ := h.facts
  have hs := h.small
  have hne := h.ne
  rcases inL_cases l n with ⟨k, rfl, hk, hi⟩ | ⟨k0, hi⟩ | ⟨k0, k1, hi⟩
  · obtain ⟨x, hx⟩ : ∃ x, l[k]? = some x := ⟨l[k], List.getElem?_eq_getElem hk⟩
    obtain ⟨c0, c1⟩ := h.word hx
    have Ht := Lib.hid (show tick l (k : Int) s = wrap64 (s + 1) by unfold tick; rw [hi]; rfl)
    have Hl := Lib.hid (show storeL l (k : Int) y = l.set k y by unfold storeL; rw [hi]; simp)
    clear hx hi
    go_enter Tryz.func129, Tryz.ntmps129
    go_wp2_with (first | (go_at_call 168; go_in) | (go_at_call 80; refine (clen_any _ (h.alloc _)).mono ?_; rintro e w1 ⟨rfl, rfl⟩) | (go_at_call 183; go_in) | (go_at_call 184; refine (astore_any _ x _ _ (by go_simp) (by go_simp)).mono ?_; rintro e w1 ⟨rfl, rfl⟩) | (go_at_call 195; refine (aadd_any _ s _ (by go_simp) (by go_simp)).mono ?_; rintro e w1 ⟨rfl, rfl⟩))
    go_end0
    exact ⟨rfl, by rw [Ht.out, Hl.out]; exact (h.put _ _).count _ |>.alloc _, (((Only.refl _ _).set (.inl (.inr rfl)) _).set (.inl (.inl rfl)) _).alloc _⟩
  · have Hi := Lib.hid hi
    clear hi
    go_enter Tryz.func129, Tryz.ntmps129
    go_wp2_with (first | (go_at_call 168; go_in) | (go_at_call 80; refine (clen_any _ (h.alloc _)).mono ?_; rintro e w1 ⟨rfl, rfl⟩) | (go_at_call 183; go_in) | (go_at_call 184; refine (astore_any _ x _ _ (by go_simp) (by go_simp)).mono ?_; rintro e w1 ⟨rfl, rfl⟩) | (go_at_call 195; refine (aadd_any _ s _ (by go_simp) (by go_simp)).mono ?_; rintro e w1 ⟨rfl, rfl⟩))
    go_end0
    exact ⟨rfl, by unfold tick storeL; rw [Hi.out]; exact h.alloc _, (Only.refl _ _).alloc _⟩
  · have Hi := Lib.hid hi
    clear hi
    go_enter Tryz.func129, Tryz.ntmps129
    go_wp2_with (first | (go_at_call 168; go_in) | (go_at_call 80; refine (clen_any _ (h.alloc _)).mono ?_; rintro e w1 ⟨rfl, rfl⟩) | (go_at_call 183; go_in) | (go_at_call 184; refine (astore_any _ x _ _ (by go_simp) (by go_simp)).mono ?_; rintro e w1 ⟨rfl, rfl⟩) | (go_at_call 195; refine (aadd_any _ s _ (by go_simp) (by go_simp)).mono ?_; rintro e w1 ⟨rfl, rfl⟩))
    go_end0
    exact ⟨rfl, by unfold tick storeL; rw [Hi.out]; exact h.alloc _, (Only.refl _ _).alloc _⟩

set_option maxHeartbeats 2000000 in
theorem swap_any {bc bx : Nat} {l : List Int} {s : Int} (n old y : Int) (w : World) (h : CellsAt w bc bx l s) :
    Calls Tryz.prog 111 #[.pointer (some ⟨bc, 0, none⟩), .int .i64 n, .int .u64 old, .int .u64 y] w fun e w' => e = .returned (.bool (swapB l n old)) ∧ CellsAt w' bc bx (swapL l n old y) (tick l n s) ∧ Only (CS bc bx) w w' := by
  obtain ⟨h0, h1, h2, h3, h4⟩ := h.facts
  have hs := h.small
  have hne := h.ne
  have m1 : bc < w.heap.size + 1 := by omega
  have m2 : bc < w.heap.size + 1 + 1 := by omega
  have m3 : bx < w.heap.size + 1 := by omega
  have m4 : bx < w.heap.size + 1 + 1 := by omega
  rcases inL_cases l n with ⟨k, rfl, hk, hi⟩ | ⟨k0, hi⟩ | ⟨k0, k1, hi⟩
  · obtain ⟨x, hx⟩ : ∃ x, l[k]? = some x := ⟨l[k], List.getElem?_eq_getElem hk⟩
    obtain ⟨c0, c1⟩ := h.word hx
    have hp := peekL_in hx
    have Ht := Lib.hid (show tick l (k : Int) s = wrap64 (s + 1) by unfold tick; rw [hi]; rfl)
    by_cases hne2 : x = old
    · subst hne2
      have hb : swapB l (k : Int) x = true := by unfold swapB; rw [hi, hp]; simp
      have Hl := Lib.hid (show swapL l (k : Int) x y = l.set k y by unfold swapL; rw [hb]; simp)
      have Hb := Lib.hid hb
      clear hx hi hp hb
      go_enter Tryz.func111, Tryz.ntmps111
      go_wp2_with (first | (go_at_call 168; go_in) | (go_at_call 80; refine (clen_any _ (((h.alloc _).alloc _).alloc _)).mono ?_; rintro e w1 ⟨rfl, rfl⟩) | (go_at_call 175; go_in) | (go_at_call 176; refine (acas_hit _ x _ _ (by go_simp) (by go_simp)).mono ?_; rintro e w1 ⟨rfl, rfl⟩) | (go_at_call 195; refine (aadd_any _ s _ (by go_simp) (by go_simp)).mono ?_; rintro e w1 ⟨rfl, rfl⟩))
      go_ret
      exact ⟨ret_b Hb.out.symm, by rw [Ht.out, Hl.out]; exact (((h.put _ _).count _).alloc _).alloc _ |>.alloc _, (((((Only.refl _ _).set (.inl (.inr rfl)) _).set (.inl (.inl rfl)) _).alloc _).alloc _).alloc _⟩
    · have hb : swapB l (k : Int) old = false := by unfold swapB; rw [hi, hp]; simp; exact hne2
      have Hl := Lib.hid (show swapL l (k : Int) old y = l by unfold swapL; rw [hb]; rfl)
      have Hb := Lib.hid hb
      clear hx hi hp hb
      go_enter Tryz.func111, Tryz.ntmps111
      go_wp2_with (first | (go_at_call 168; go_in) | (go_at_call 80; refine (clen_any _ (((h.alloc _).alloc _).alloc _)).mono ?_; rintro e w1 ⟨rfl, rfl⟩) | (go_at_call 175; go_in) | (go_at_call 176; refine (acas_miss _ x _ _ _ (by go_simp) (by go_simp) hne2).mono ?_; rintro e w1 ⟨rfl, rfl⟩) | (go_at_call 195; refine (aadd_any _ s _ (by go_simp) (by go_simp)).mono ?_; rintro e w1 ⟨rfl, rfl⟩))
      go_ret
      exact ⟨ret_b Hb.out.symm, by rw [Ht.out, Hl.out]; exact (((h.count _).alloc _).alloc _).alloc _, ((((Only.refl _ _).set (.inl (.inl rfl)) _).alloc _).alloc _).alloc _⟩
  · have Hi := Lib.hid hi
    clear hi
    go_enter Tryz.func111, Tryz.ntmps111
    go_wp2_with (first | (go_at_call 168; go_in) | (go_at_call 80; refine (clen_any _ (((h.alloc _).alloc _).alloc _)).mono ?_; rintro e w1 ⟨rfl, rfl⟩) | (go_at_call 175; go_in) | (go_at_call 176; refine (acas_hit _ old _ _ (by go_simp) (by go_simp)).mono ?_; rintro e w1 ⟨rfl, rfl⟩) | (go_at_call 195; refine (aadd_any _ s _ (by go_simp) (by go_simp)).mono ?_; rintro e w1 ⟨rfl, rfl⟩))
    go_ret
    exact ⟨ret_b (by unfold swapB; rw [Hi.out]; rfl), by unfold tick swapL swapB; rw [Hi.out]; exact ((h.alloc _).alloc _).alloc _, (((Only.refl _ _).alloc _).alloc _).alloc _⟩
  · have Hi := Lib.hid hi
    clear hi
    go_enter Tryz.func111, Tryz.ntmps111
    go_wp2_with (first | (go_at_call 168; go_in) | (go_at_call 80; refine (clen_any _ (((h.alloc _).alloc _).alloc _)).mono ?_; rintro e w1 ⟨rfl, rfl⟩) | (go_at_call 175; go_in) | (go_at_call 176; refine (acas_hit _ old _ _ (by go_simp) (by go_simp)).mono ?_; rintro e w1 ⟨rfl, rfl⟩) | (go_at_call 195; refine (aadd_any _ s _ (by go_simp) (by go_simp)).mono ?_; rintro e w1 ⟨rfl, rfl⟩))
    go_ret
    exact ⟨ret_b (by unfold swapB; rw [Hi.out]; rfl), by unfold tick swapL swapB; rw [Hi.out]; exact ((h.alloc _).alloc _).alloc _, (((Only.refl _ _).alloc _).alloc _).alloc _⟩

end Go.Proofs.YtccmjljlfgbicaaGreat

/- The book in memory, and the contracts of its questions. -/
namespace Go.Proofs.YtccmjljlfgbicaaGreat
open Go.ChangeShapes Go.WideShapes Go.ChangeAt Go.RowKit

/-- A map's entries, as they were laid. -/
def mkEntry (x : (Int × Value) × Nat) : MapEntry := { key := .int .i64 x.1.1, val := x.1.2, born := x.2 }
def mkMap (es : List (Int × Value)) : Array MapEntry := (es.zipIdx.map mkEntry).toArray
/-- Block g is a map with integers as keys. -/
def MapAt (w : World) (g : Nat) (es : List (Int × Value)) : Prop := w.heap[g]? = some (.map (mkMap es) es.length)

/-- What stands at a key. -/
def look1 {α : Type} (es : List (Int × α)) (k : Int) : Option α := (es.find? (fun p => p.1 == k)).map (·.2)
theorem look1_nil {α : Type} (k : Int) : look1 ([] : List (Int × α)) k = none := rfl
theorem look1_cons {α : Type} (p : Int × α) (es : List (Int × α)) (k : Int) : look1 (p :: es) k = if p.1 = k then some p.2 else look1 es k := by
  unfold look1
  by_cases h : p.1 = k
  · simp [h]
  · have : (p.1 == k) = false := by simpa using h
    simp [this, h]
theorem look1_map {α β : Type} (f : α → β) (es : List (Int × α)) (k : Int) : look1 (es.map fun p => (p.1, f p.2)) k = (look1 es k).map f := by
  induction es with
  | nil => rfl
  | cons p es ih =>
    rw [List.map_cons, look1_cons, look1_cons, ih]
    split <;> rfl
theorem look1_append {α : Type} (es : List (Int × α)) (p : Int × α) (k : Int) : look1 (es ++ [p]) k = (look1 es k).or (if p.1 = k then some p.2 else none) := by
  induction es with
  | nil => rw [List.nil_append, look1_cons, look1_nil]; rfl
  | cons q es ih =>
    rw [List.cons_append, look1_cons, look1_cons, ih]
    split <;> rfl

section
variable {w w' : World} {g : Nat} {es : List (Int × Value)}
theorem MapAt.lt (h : MapAt w g es) : g < w.heap.size := by
  rcases Nat.lt_or_ge g w.heap.size with hlt | hge
  · exact hlt
  · unfold MapAt at h; rw [Array.getElem?_eq_none hge] at h; cases h
theorem MapAt.alloc (h : MapAt w g es) (o : Obj) : MapAt (w.alloc o) g es := (Below.heap_alloc w o g h.lt).trans h
theorem MapAt.drew (h : MapAt w g es) : MapAt w.drew g es := h
theorem MapAt.only {S : Nat → Prop} (h : MapAt w g es) (ho : Only S w w') (hs : ¬ S g) : MapAt w' g es := (ho.block g h.lt hs).trans h
theorem MapAt.far (h : MapAt w g es) {p : Addr} (hp : g ≠ p.block) (u : Value) : MapAt (w.setCell p u) g es := (Below.heap_setCell w p u g hp).trans h
theorem MapAt.ne {g' : Nat} {t' : TypeId} {cs' : Array Value} (h : MapAt w g es) (h' : At w g' t' cs') : g ≠ g' := by
  rintro rfl
  unfold MapAt at h; unfold At at h'
  rw [h] at h'
  cases h'
end

theorem findNow_int (k : Int) : ∀ (es : List (Int × Value)) (i : Nat),
    Instr.findNow (.int .i64) (.int .i64 k) ((es.zipIdx i).map mkEntry) i = some ((es.zipIdx i).findSome? fun x => if x.1.1 = k then some (x.2, x.1.2) else none)
  | [], _ => rfl
  | (a, v) :: es, i => by
    rw [List.zipIdx_cons, List.map_cons]
    by_cases h : a = k
    ·       simp [Instr.findNow, Instr.sameNow, mkEntry, h]
    · have h' : (k == a) = false := by rw [beq_eq_false_iff_ne]; exact fun e => h e.symm
      have := findNow_int k es (i + 1)
      simp [Instr.findNow, Instr.sameNow, mkEntry, h', h]
      simpa [mkEntry] using this

theorem findSome_look (k : Int) : ∀ (es : List (Int × Value)) (i : Nat),
    ((es.zipIdx i).findSome? fun x => if x.1.1 = k then some (x.2, x.1.2) else none).map (·.2) = look1 es k
  | [], _ => rfl
  | (a, v) :: es, i => by
    rw [List.zipIdx_cons, List.findSome?_cons, look1_cons]
    by_cases h : a = k
    · simp [h]
    · simp only [h, if_false]; exact findSome_look k es (i + 1)

section
variable {P : Program}
theorem run_findKey {kt : TypeId} (ht : P.underlying kt = some (.int .i64)) (k : Int) (es : List (Int × Value)) (w : World) :
    ∃ r, (Instr.findKey kt (.int .i64 k) (mkMap es).toList).run P w = .ok r w ∧ r.map (·.2) = look1 es k := by
  have h := findNow_int k es 0
  have e : (mkMap es).toList = (es.zipIdx 0).map mkEntry := by simp [mkMap]
  refine ⟨_, ?_, findSome_look k es 0⟩
  rw [e]
  simp only [Instr.findKey]
  simp [run_underlying ht, h]

theorem run_ck {kt : TypeId} (ht : P.underlying kt = some (.int .i64)) (e : Bool) (k : Int) (w : World) : (Instr.checkKey e 10000 kt (.int .i64 k)).run P w = .ok () w :=
  MapKept.run_checkKey ht (by simp [MapKept.IsKey]) e 9999

theorem run_lookup_in {mt kt et : TypeId} (hm : P.underlying mt = some (.map kt et)) (ht : P.underlying kt = some (.int .i64)) {w : World} {g : Nat} {es : List (Int × Value)} (hg : MapAt w g es) {k : Int} {v : Value} (hl : look1 es k = some v) :
    (Instr.lookup mt (.map (some g)) (.int .i64 k) true).run P w = .ok (.tuple #[v, .bool true]) w := by
  obtain ⟨r, hr, hrl⟩ := run_findKey ht k es w
  rw [hl] at hrl
  obtain ⟨⟨i, v'⟩, rfl, rfl⟩ : ∃ x, r = some x ∧ x.2 = v := by
    cases r with
    | none => cases hrl
    | some x => exact ⟨x, rfl, by simpa using hrl⟩
  unfold MapAt at hg
  simp [Instr.lookup, run_underlying hm, MapKept.run_getObj_map hg, run_ck ht, hr]

theorem run_lookup_out {mt kt et : TypeId} (hm : P.underlying mt = some (.map kt et)) (ht : P.underlying kt = some (.int .i64)) {w : World} {g : Nat} {es : List (Int × Value)} (hg : MapAt w g es) {k : Int} {z : Value} (hz : ∀ w, (zeroValue et).run P w = .ok z w) (hl : look1 es k = none) :
    (Instr.lookup mt (.map (some g)) (.int .i64 k) true).run P w = .ok (.tuple #[z, .bool false]) w := by
  obtain ⟨r, hr, hrl⟩ := run_findKey ht k es w
  rw [hl] at hrl
  obtain rfl : r = none := by
    cases r with
    | none => rfl
    | some x => cases hrl
  unfold MapAt at hg
  simp [Instr.lookup, run_underlying hm, MapKept.run_getObj_map hg, run_ck ht, hr, hz]

/-- A world whose block g is another object. -/
def putObj (w : World) (g : Nat) (o : Obj) : World := { w with heap := w.heap.setIfInBounds g o }

theorem run_update_new {mt kt et : TypeId} (hm : P.underlying mt = some (.map kt et)) (ht : P.underlying kt = some (.int .i64)) {w : World} {g : Nat} {es : List (Int × Value)} (hg : MapAt w g es) {k : Int} (hl : look1 es k = none) (v : Value) :
    (Instr.mapUpdate mt (.map (some g)) (.int .i64 k) v).run P w = .ok () (putObj w g (.map (mkMap (es ++ [(k, v)])) (es.length + 1))) := by
  obtain ⟨r, hr, hrl⟩ := run_findKey ht k es w
  rw [hl] at hrl
  obtain rfl : r = none := by
    cases r with
    | none => rfl
    | some x => cases hrl
  have e : (mkMap es).push { key := .int .i64 k, val := v, born := es.length } = mkMap (es ++ [(k, v)]) := by
    simp [mkMap, List.zipIdx_append, mkEntry]
  unfold MapAt at hg
  simp [Instr.mapUpdate, run_underlying hm, MapKept.run_getObj_map hg, run_ck ht, hr, e, putObj, MapKept.run_setObj_map _ hg]
end

end Go.Proofs.YtccmjljlfgbicaaGreat

