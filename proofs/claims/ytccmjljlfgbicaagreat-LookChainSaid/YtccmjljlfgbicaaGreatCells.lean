/- Contracts of the cells: words that threads share, and how many steps there were. -/
import Derived.Test.YtccmjljlfgbicaaGreatMem
namespace Go.Proofs.YtccmjljlfgbicaaGreat
open Go.ChangeShapes Go.WideShapes Go.ChangeAt Go.RowKit

/-- The words, as values. -/
def wordsOf (l : List Int) : Array Value := (l.map (Value.int .u64)).toArray
theorem wordsOf_get (l : List Int) (i : Nat) (x : Int) (h : l[i]? = some x) : (wordsOf l)[i]? = some (.int .u64 x) := by simp [wordsOf, h]
theorem wordsOf_set (l : List Int) (i : Nat) (x : Int) : (wordsOf l).setIfInBounds i (.int .u64 x) = wordsOf (l.set i x) := by
  simp [wordsOf, List.map_set]

/-- The cells at block bc, their words at block bx. -/
structure CellsAt (w : World) (bc bx : Nat) (l : List Int) (steps : Int) : Prop where
  head : At w bc 143 #[.slice (some ⟨bx, 0, none⟩) l.length l.length, .int .i64 steps]
  words : At w bx 166 (wordsOf l)
  small : l.length ≤ 1048576

theorem CellsAt.ne {w : World} {bc bx : Nat} {l : List Int} {s : Int} (h : CellsAt w bc bx l s) : bc ≠ bx := h.head.ne h.words (by decide)
theorem CellsAt.only {w w' : World} {bc bx : Nat} {l : List Int} {s : Int} {S : Nat → Prop} (h : CellsAt w bc bx l s) (ho : Only S w w') (h1 : ¬ S bc) (h2 : ¬ S bx) : CellsAt w' bc bx l s :=
  ⟨h.head.only ho h1, h.words.only ho h2, h.small⟩
theorem CellsAt.below {w w' : World} {bc bx : Nat} {l : List Int} {s : Int} (h : CellsAt w bc bx l s) (ho : Below w.heap.size w w') : CellsAt w' bc bx l s :=
  ⟨h.head.below' ho, h.words.below' ho, h.small⟩

/-- The facts that a walk wants of cells: the head's two, neither frozen. -/
theorem CellsAt.facts {w : World} {bc bx : Nat} {l : List Int} {s : Int} (h : CellsAt w bc bx l s) :
    w.cell? ⟨bc, 0, none⟩ = some (.slice (some ⟨bx, 0, none⟩) l.length l.length) ∧ w.cell? ⟨bc, 1, none⟩ = some (.int .i64 s) ∧ w.frozen? ⟨bc, 1, none⟩ = false ∧ bc < w.heap.size ∧ bx < w.heap.size :=
  ⟨h.head.cell 0, h.head.cell 1, h.head.frozen 1, h.head.lt, h.words.lt⟩
theorem CellsAt.word {w : World} {bc bx : Nat} {l : List Int} {s : Int} (h : CellsAt w bc bx l s) {i : Nat} {x : Int} (hx : l[i]? = some x) :
    w.cell? ⟨bx, i, none⟩ = some (.int .u64 x) ∧ w.frozen? ⟨bx, i, none⟩ = false :=
  ⟨(h.words.cell i).trans (wordsOf_get l i x hx), h.words.frozen i⟩

set_option maxHeartbeats 400000 in
theorem clen_any {bc bx : Nat} {l : List Int} {s : Int} (w : World) (h : CellsAt w bc bx l s) :
    Calls Tryz.prog 80 #[.pointer (some ⟨bc, 0, none⟩)] w fun e w' => e = .returned (.int .i64 l.length) ∧ w = w' := by
  obtain ⟨h0, h1, h2, h3, h4⟩ := h.facts
  go_enter Tryz.func80, Tryz.ntmps80
  go_wp2
  go_ret
  exact ⟨rfl, rfl⟩

set_option maxHeartbeats 400000 in
theorem steps_any {bc bx : Nat} {l : List Int} {s : Int} (w : World) (h : CellsAt w bc bx l s) :
    Calls Tryz.prog 24 #[.pointer (some ⟨bc, 0, none⟩)] w fun e w' => e = .returned (.int .i64 s) ∧ w = w' := by
  obtain ⟨h0, h1, h2, h3, h4⟩ := h.facts
  go_enter Tryz.func24, Tryz.ntmps24
  go_wp2_with (go_at_call 81; refine (asteps_any _ s _ h1).mono ?_; rintro e w1 ⟨rfl, rfl⟩)
  go_ret
  exact ⟨rfl, rfl⟩

/-- A word; 0, if there is none. -/
def peekL (l : List Int) (n : Int) : Int := if 0 ≤ n ∧ n < (l.length : Int) then l.getD n.toNat 0 else 0
theorem peekL_in {l : List Int} {k : Nat} {x : Int} (hx : l[k]? = some x) : peekL l (k : Int) = x := by
  have hk : k < l.length := by
    rcases Nat.lt_or_ge k l.length with h | h
    · exact h
    · rw [List.getElem?_eq_none h] at hx; cases hx
  unfold peekL; rw [if_pos (by omega)]; simp [hx]
theorem peekL_out {l : List Int} {n : Int} (h : ¬ (0 ≤ n ∧ n < (l.length : Int))) : peekL l n = 0 := by unfold peekL; rw [if_neg h]

set_option maxHeartbeats 400000 in
theorem peek_any {bc bx : Nat} {l : List Int} {s : Int} (n : Int) (w : World) (h : CellsAt w bc bx l s) :
    Calls Tryz.prog 45 #[.pointer (some ⟨bc, 0, none⟩), .int .i64 n] w fun e w' => e = .returned (.int .u64 (peekL l n)) ∧ w = w' := by
  obtain ⟨h0, h1, h2, h3, h4⟩ := h.facts
  have hs := h.small
  by_cases k0 : 0 ≤ n
  · by_cases k1 : n < (l.length : Int)
    · obtain ⟨k, rfl⟩ := Int.eq_ofNat_of_zero_le k0
      have hk : k < l.length := by omega
      obtain ⟨x, hx⟩ : ∃ x, l[k]? = some x := ⟨l[k], List.getElem?_eq_getElem hk⟩
      obtain ⟨c0, c1⟩ := h.word hx
      have Hx := Lib.hid hx
      clear hx
      go_enter Tryz.func45, Tryz.ntmps45
      go_wp2_with (first | (go_at_call 80; refine (clen_any _ h).mono ?_; rintro e w1 ⟨rfl, rfl⟩) | (go_at_call 106; refine (aload_any _ x _ c0).mono ?_; rintro e w1 ⟨rfl, rfl⟩))
      go_ret
      exact ⟨ret_u (peekL_in Hx.out).symm, rfl⟩
    · go_enter Tryz.func45, Tryz.ntmps45
      go_wp2_with (first | (go_at_call 80; refine (clen_any _ h).mono ?_; rintro e w1 ⟨rfl, rfl⟩))
      go_ret
      exact ⟨ret_u (peekL_out (by omega)).symm, rfl⟩
  · go_enter Tryz.func45, Tryz.ntmps45
    go_wp2_with (first | (go_at_call 80; refine (clen_any _ h).mono ?_; rintro e w1 ⟨rfl, rfl⟩))
    go_ret
    exact ⟨ret_u (peekL_out (by omega)).symm, rfl⟩

theorem CellsAt.alloc {w : World} {bc bx : Nat} {l : List Int} {s : Int} (h : CellsAt w bc bx l s) (o : Obj) : CellsAt (w.alloc o) bc bx l s :=
  ⟨h.head.alloc o, h.words.alloc o, h.small⟩
theorem CellsAt.far {w : World} {bc bx : Nat} {l : List Int} {s : Int} (h : CellsAt w bc bx l s) {p : Addr} (h1 : bc ≠ p.block) (h2 : bx ≠ p.block) (u : Value) : CellsAt (w.setCell p u) bc bx l s :=
  ⟨h.head.far h1 u, h.words.far h2 u, h.small⟩
theorem CellsAt.put {w : World} {bc bx : Nat} {l : List Int} {s : Int} (h : CellsAt w bc bx l s) (i : Nat) (x : Int) : CellsAt (w.setCell ⟨bx, i, none⟩ (.int .u64 x)) bc bx (l.set i x) s :=
  ⟨by rw [List.length_set]; exact h.head.far (p := ⟨bx, i, none⟩) h.ne _, by rw [← wordsOf_set]; exact h.words.set i _, by rw [List.length_set]; exact h.small⟩
theorem CellsAt.count {w : World} {bc bx : Nat} {l : List Int} {s : Int} (h : CellsAt w bc bx l s) (s' : Int) : CellsAt (w.setCell ⟨bc, 1, none⟩ (.int .i64 s')) bc bx l s' :=
  ⟨h.head.set 1 (.int .i64 s'), h.words.far (p := ⟨bc, 1, none⟩) (Ne.symm h.ne) _, h.small⟩

/-- Is there such a place? -/
def inL (l : List Int) (n : Int) : Bool := decide (0 ≤ n ∧ n < (l.length : Int))
/-- The count of steps, behind one at a place. -/
def tick (l : List Int) (n s : Int) : Int := if inL l n then wrap64 (s + 1) else s
/-- The words, behind one that was laid. -/
def storeL (l : List Int) (n x : Int) : List Int := if inL l n then l.set n.toNat x else l
/-- Does a word stand there, at a place that there is? -/
def swapB (l : List Int) (n old : Int) : Bool := inL l n && peekL l n == old
/-- The words, behind one that was laid in place of another. -/
def swapL (l : List Int) (n old x : Int) : List Int := if swapB l n old then l.set n.toNat x else l

theorem inL_nat {l : List Int} {k : Nat} (h : k < l.length) : inL l (k : Int) = true := by unfold inL; simp; exact h
theorem inL_cases (l : List Int) (n : Int) : (∃ k : Nat, n = k ∧ k < l.length ∧ inL l n = true) ∨ (n < 0 ∧ inL l n = false) ∨ (0 ≤ n ∧ (l.length : Int) ≤ n ∧ inL l n = false) := by
  by_cases h0 : 0 ≤ n
  · by_cases h1 : n < (l.length : Int)
    · exact .inl ⟨n.toNat, by omega, by omega, by unfold inL; exact decide_eq_true ⟨h0, h1⟩⟩
    · exact .inr (.inr ⟨h0, by omega, by unfold inL; exact decide_eq_false (by omega)⟩)
  · exact .inr (.inl ⟨by omega, by unfold inL; exact decide_eq_false (by omega)⟩)

/-- The blocks of cells. -/
def CS (bc bx : Nat) (i : Nat) : Prop := i = bc ∨ i = bx

set_option maxHeartbeats 1000000 in
theorem load_any {bc bx : Nat} {l : List Int} {s : Int} (n : Int) (w : World) (h : CellsAt w bc bx l s) :
    Calls Tryz.prog 100 #[.pointer (some ⟨bc, 0, none⟩), .int .i64 n] w fun e w' => e = .returned (.int .u64 (peekL l n)) ∧ CellsAt w' bc bx l (tick l n s) ∧ Only (CS bc bx) w w' := by
  obtain ⟨h0, h1, h2, h3, h4⟩ := h.facts
  have hs := h.small
  rcases inL_cases l n with ⟨k, rfl, hk, hi⟩ | ⟨k0, hi⟩ | ⟨k0, k1, hi⟩
  · obtain ⟨x, hx⟩ : ∃ x, l[k]? = some x := ⟨l[k], List.getElem?_eq_getElem hk⟩
    obtain ⟨c0, c1⟩ := h.word hx
    have Ht := Lib.hid (show tick l (k : Int) s = wrap64 (s + 1) by unfold tick; rw [hi]; rfl)
    have Hx := Lib.hid hx
    clear hx hi
    go_enter Tryz.func100, Tryz.ntmps100
    go_wp2_with (first | (go_at_call 168; go_in) | (go_at_call 80; refine (clen_any _ (h.alloc _)).mono ?_; rintro e w1 ⟨rfl, rfl⟩) | (go_at_call 169; go_in) | (go_at_call 106; refine (aload_any _ x _ (by go_simp)).mono ?_; rintro e w1 ⟨rfl, rfl⟩) | (go_at_call 195; refine (aadd_any _ s _ (by go_simp) (by go_simp)).mono ?_; rintro e w1 ⟨rfl, rfl⟩))
    go_ret
    exact ⟨ret_u (peekL_in Hx.out).symm, by rw [Ht.out]; exact (h.count _).alloc _, ((Only.refl _ _).set (.inl (.inl rfl)) _).alloc _⟩
  · have Hi := Lib.hid hi
    clear hi
    go_enter Tryz.func100, Tryz.ntmps100
    go_wp2_with (first | (go_at_call 168; go_in) | (go_at_call 80; refine (clen_any _ (h.alloc _)).mono ?_; rintro e w1 ⟨rfl, rfl⟩) | (go_at_call 169; go_in) | (go_at_call 106; refine (aload_any _ x _ (by go_simp)).mono ?_; rintro e w1 ⟨rfl, rfl⟩) | (go_at_call 195; refine (aadd_any _ s _ (by go_simp) (by go_simp)).mono ?_; rintro e w1 ⟨rfl, rfl⟩))
    go_ret
    exact ⟨ret_u (peekL_out (by omega)).symm, by unfold tick; rw [Hi.out]; exact h.alloc _, (Only.refl _ _).alloc _⟩
  · have Hi := Lib.hid hi
    clear hi
    go_enter Tryz.func100, Tryz.ntmps100
    go_wp2_with (first | (go_at_call 168; go_in) | (go_at_call 80; refine (clen_any _ (h.alloc _)).mono ?_; rintro e w1 ⟨rfl, rfl⟩) | (go_at_call 169; go_in) | (go_at_call 106; refine (aload_any _ x _ (by go_simp)).mono ?_; rintro e w1 ⟨rfl, rfl⟩) | (go_at_call 195; refine (aadd_any _ s _ (by go_simp) (by go_simp)).mono ?_; rintro e w1 ⟨rfl, rfl⟩))
    go_ret
    exact ⟨ret_u (peekL_out (by omega)).symm, by unfold tick; rw [Hi.out]; exact h.alloc _, (Only.refl _ _).alloc _⟩

set_option maxHeartbeats 1000000 in
theorem store_any {bc bx : Nat} {l : List Int} {s : Int} (n y : Int) (w : World) (h : CellsAt w bc bx l s) :
    Calls Tryz.prog 129 #[.pointer (some ⟨bc, 0, none⟩), .int .i64 n, .int .u64 y] w fun e w' => e = .returned (.tuple #[]) ∧ CellsAt w' bc bx (storeL l n y) (tick l n s) ∧ Only (CS bc bx) w w' := by
  obtain ⟨h0, h1, h2, h3, h4⟩ := h.facts
  have hs := h.small
  have hne := h.ne
  rcases inL_cases l n with ⟨k, rfl, hk, hi⟩ | ⟨k0, hi⟩ | ⟨k0, k1, hi⟩
  · obtain ⟨x, hx⟩ : ∃ x, l[k]? = some x := ⟨l[k], List.getElem?_eq_getElem hk⟩
    obtain ⟨c0, c1⟩ := h.word hx
    have Ht := Lib.hid (show tick l (k : Int) s = wrap64 (s + 1) by unfold tick; rw [hi]; rfl)
    have Hl := Lib.hid (show storeL l (k : Int) y = l.set k y by unfold storeL; rw [hi]; simp)
    clear hx hi
    go_enter Tryz.func129, Tryz.ntmps129
    go_wp2_with (first | (go_at_call 168; go_in) | (go_at_call 80; refine (clen_any _ (h.alloc _)).mono ?_; rintro e w1 ⟨rfl, rfl⟩) | (go_at_call 183; go_in) | (go_at_call 184; refine (astore_any _ x _ _ (by go_simp) (by go_simp)).mono ?_; rintro e w1 ⟨rfl, rfl⟩) | (go_at_call 195; refine (aadd_any _ s _ (by go_simp) (by go_simp)).mono ?_; rintro e w1 ⟨rfl, rfl⟩))
    go_end0
    exact ⟨rfl, by rw [Ht.out, Hl.out]; exact (h.put _ _).count _ |>.alloc _, (((Only.refl _ _).set (.inl (.inr rfl)) _).set (.inl (.inl rfl)) _).alloc _⟩
  · have Hi := Lib.hid hi
    clear hi
    go_enter Tryz.func129, Tryz.ntmps129
    go_wp2_with (first | (go_at_call 168; go_in) | (go_at_call 80; refine (clen_any _ (h.alloc _)).mono ?_; rintro e w1 ⟨rfl, rfl⟩) | (go_at_call 183; go_in) | (go_at_call 184; refine (astore_any _ x _ _ (by go_simp) (by go_simp)).mono ?_; rintro e w1 ⟨rfl, rfl⟩) | (go_at_call 195; refine (aadd_any _ s _ (by go_simp) (by go_simp)).mono ?_; rintro e w1 ⟨rfl, rfl⟩))
    go_end0
    exact ⟨rfl, by unfold tick storeL; rw [Hi.out]; exact h.alloc _, (Only.refl _ _).alloc _⟩
  · have Hi := Lib.hid hi
    clear hi
    go_enter Tryz.func129, Tryz.ntmps129
    go_wp2_with (first | (go_at_call 168; go_in) | (go_at_call 80; refine (clen_any _ (h.alloc _)).mono ?_; rintro e w1 ⟨rfl, rfl⟩) | (go_at_call 183; go_in) | (go_at_call 184; refine (astore_any _ x _ _ (by go_simp) (by go_simp)).mono ?_; rintro e w1 ⟨rfl, rfl⟩) | (go_at_call 195; refine (aadd_any _ s _ (by go_simp) (by go_simp)).mono ?_; rintro e w1 ⟨rfl, rfl⟩))
    go_end0
    exact ⟨rfl, by unfold tick storeL; rw [Hi.out]; exact h.alloc _, (Only.refl _ _).alloc _⟩

set_option maxHeartbeats 2000000 in
theorem swap_any {bc bx : Nat} {l : List Int} {s : Int} (n old y : Int) (w : World) (h : CellsAt w bc bx l s) :
    Calls Tryz.prog 111 #[.pointer (some ⟨bc, 0, none⟩), .int .i64 n, .int .u64 old, .int .u64 y] w fun e w' => e = .returned (.bool (swapB l n old)) ∧ CellsAt w' bc bx (swapL l n old y) (tick l n s) ∧ Only (CS bc bx) w w' := by
  obtain ⟨h0, h1, h2, h3, h4⟩ := h.facts
  have hs := h.small
  have hne := h.ne
  have m1 : bc < w.heap.size + 1 := by omega
  have m2 : bc < w.heap.size + 1 + 1 := by omega
  have m3 : bx < w.heap.size + 1 := by omega
  have m4 : bx < w.heap.size + 1 + 1 := by omega
  rcases inL_cases l n with ⟨k, rfl, hk, hi⟩ | ⟨k0, hi⟩ | ⟨k0, k1, hi⟩
  · obtain ⟨x, hx⟩ : ∃ x, l[k]? = some x := ⟨l[k], List.getElem?_eq_getElem hk⟩
    obtain ⟨c0, c1⟩ := h.word hx
    have hp := peekL_in hx
    have Ht := Lib.hid (show tick l (k : Int) s = wrap64 (s + 1) by unfold tick; rw [hi]; rfl)
    by_cases hne2 : x = old
    · subst hne2
      have hb : swapB l (k : Int) x = true := by unfold swapB; rw [hi, hp]; simp
      have Hl := Lib.hid (show swapL l (k : Int) x y = l.set k y by unfold swapL; rw [hb]; simp)
      have Hb := Lib.hid hb
      clear hx hi hp hb
      go_enter Tryz.func111, Tryz.ntmps111
      go_wp2_with (first | (go_at_call 168; go_in) | (go_at_call 80; refine (clen_any _ (((h.alloc _).alloc _).alloc _)).mono ?_; rintro e w1 ⟨rfl, rfl⟩) | (go_at_call 175; go_in) | (go_at_call 176; refine (acas_hit _ x _ _ (by go_simp) (by go_simp)).mono ?_; rintro e w1 ⟨rfl, rfl⟩) | (go_at_call 195; refine (aadd_any _ s _ (by go_simp) (by go_simp)).mono ?_; rintro e w1 ⟨rfl, rfl⟩))
      go_ret
      exact ⟨ret_b Hb.out.symm, by rw [Ht.out, Hl.out]; exact (((h.put _ _).count _).alloc _).alloc _ |>.alloc _, (((((Only.refl _ _).set (.inl (.inr rfl)) _).set (.inl (.inl rfl)) _).alloc _).alloc _).alloc _⟩
    · have hb : swapB l (k : Int) old = false := by unfold swapB; rw [hi, hp]; simp; exact hne2
      have Hl := Lib.hid (show swapL l (k : Int) old y = l by unfold swapL; rw [hb]; rfl)
      have Hb := Lib.hid hb
      clear hx hi hp hb
      go_enter Tryz.func111, Tryz.ntmps111
      go_wp2_with (first | (go_at_call 168; go_in) | (go_at_call 80; refine (clen_any _ (((h.alloc _).alloc _).alloc _)).mono ?_; rintro e w1 ⟨rfl, rfl⟩) | (go_at_call 175; go_in) | (go_at_call 176; refine (acas_miss _ x _ _ _ (by go_simp) (by go_simp) hne2).mono ?_; rintro e w1 ⟨rfl, rfl⟩) | (go_at_call 195; refine (aadd_any _ s _ (by go_simp) (by go_simp)).mono ?_; rintro e w1 ⟨rfl, rfl⟩))
      go_ret
      exact ⟨ret_b Hb.out.symm, by rw [Ht.out, Hl.out]; exact (((h.count _).alloc _).alloc _).alloc _, ((((Only.refl _ _).set (.inl (.inl rfl)) _).alloc _).alloc _).alloc _⟩
  · have Hi := Lib.hid hi
    clear hi
    go_enter Tryz.func111, Tryz.ntmps111
    go_wp2_with (first | (go_at_call 168; go_in) | (go_at_call 80; refine (clen_any _ (((h.alloc _).alloc _).alloc _)).mono ?_; rintro e w1 ⟨rfl, rfl⟩) | (go_at_call 175; go_in) | (go_at_call 176; refine (acas_hit _ old _ _ (by go_simp) (by go_simp)).mono ?_; rintro e w1 ⟨rfl, rfl⟩) | (go_at_call 195; refine (aadd_any _ s _ (by go_simp) (by go_simp)).mono ?_; rintro e w1 ⟨rfl, rfl⟩))
    go_ret
    exact ⟨ret_b (by unfold swapB; rw [Hi.out]; rfl), by unfold tick swapL swapB; rw [Hi.out]; exact ((h.alloc _).alloc _).alloc _, (((Only.refl _ _).alloc _).alloc _).alloc _⟩
  · have Hi := Lib.hid hi
    clear hi
    go_enter Tryz.func111, Tryz.ntmps111
    go_wp2_with (first | (go_at_call 168; go_in) | (go_at_call 80; refine (clen_any _ (((h.alloc _).alloc _).alloc _)).mono ?_; rintro e w1 ⟨rfl, rfl⟩) | (go_at_call 175; go_in) | (go_at_call 176; refine (acas_hit _ old _ _ (by go_simp) (by go_simp)).mono ?_; rintro e w1 ⟨rfl, rfl⟩) | (go_at_call 195; refine (aadd_any _ s _ (by go_simp) (by go_simp)).mono ?_; rintro e w1 ⟨rfl, rfl⟩))
    go_ret
    exact ⟨ret_b (by unfold swapB; rw [Hi.out]; rfl), by unfold tick swapL swapB; rw [Hi.out]; exact ((h.alloc _).alloc _).alloc _, (((Only.refl _ _).alloc _).alloc _).alloc _⟩

end Go.Proofs.YtccmjljlfgbicaaGreat
