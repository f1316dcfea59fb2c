/- Contracts of the book's questions: what an operation is, a node's key; a thread's counts. -/
import Derived.Test.YtccmjljlfgbicaaGreatHolds
namespace Go.Proofs.YtccmjljlfgbicaaGreat
open Go.ChangeShapes Go.WideShapes Go.ChangeAt Go.RowKit

/-- The number of an error: there is none, if something isn't so. -/
def errNo (b : Bool) : Int := if b then 0 else 4
theorem below2 {w : World} (o1 o2 : Obj) : Below w.heap.size w ((w.alloc o1).alloc o2) := ((Below.refl _ _).alloc (Nat.le_refl _) _).alloc (by simp) _

set_option maxRecDepth 100000 in
set_option maxHeartbeats 1000000 in
theorem callof_any {k : Blks} {s : St} (n : Int) (w : World) (h : Holds k s w) :
    Calls Tryz.prog 97 #[.pointer (some ⟨k.bb, 0, none⟩), .int .i64 n] w fun e w' => e = .returned (.tuple #[(s.call n).v, .int .i64 (errNo (s.callOf n).isSome)]) ∧ Below w.heap.size w w' := by
  obtain ⟨_, b5, b6, b7, bl⟩ := h.bfacts
  cases hl : s.callOf n with
  | some c =>
    have Hr := Lib.hid (show s.call n = c by unfold St.call; rw [hl]; rfl)
    have hrun := fun cs t => run_lookup_in (P := Tryz.prog) Tryz.underlying160 Tryz.underlying3 (h.alloc (.cells cs t)).ops (k := n) (v := c.v) (by rw [look_ops, hl]; rfl)
    clear hl
    go_enter Tryz.func97, Tryz.ntmps97
    go_wp2
    exact bodyPost_ret (v := .tuple #[.agg #[.int .i64 c.kind, .int .u64 c.key, .int .u64 c.val, .int .i64 c.limit], .int .i64 0]) (by simp [results, Tryz.results97, go_sem]) rfl ⟨by rw [Hr.out]; rfl, below2 _ _⟩
  | none =>
    have Hr := Lib.hid (show s.call n = GCall.none_ by unfold St.call; rw [hl]; rfl)
    have hrun := fun cs t => run_lookup_out (P := Tryz.prog) Tryz.underlying160 Tryz.underlying3 (h.alloc (.cells cs t)).ops (k := n) (z := .agg #[.int .i64 0, .int .u64 0, .int .u64 0, .int .i64 0]) (by intro w; kernel_rfl) (by rw [look_ops, hl]; rfl)
    clear hl
    go_enter Tryz.func97, Tryz.ntmps97
    go_wp2
    exact bodyPost_ret (v := .tuple #[.agg #[.int .i64 0, .int .u64 0, .int .u64 0, .int .i64 0], .int .i64 4]) (by simp [results, Tryz.results97, go_sem]) rfl ⟨by rw [Hr.out]; rfl, below2 _ _⟩

set_option maxRecDepth 100000 in
set_option maxHeartbeats 1000000 in
theorem key_any {k : Blks} {s : St} (n : Int) (w : World) (h : Holds k s w) :
    Calls Tryz.prog 36 #[.pointer (some ⟨k.bb, 0, none⟩), .int .i64 n] w fun e w' => e = .returned (.int .u64 (s.key n)) ∧ Below w.heap.size w w' := by
  have Hk := Lib.hid (show s.key n = (s.call (s.carried n)).key from rfl)
  go_enter Tryz.func36, Tryz.ntmps36
  go_wp2_with (first | (go_at_call 38; refine (carried_any n _ h).mono ?_; rintro e w1 ⟨rfl, rfl⟩) | (go_at_call 97; refine (callof_any (s.carried n) _ h).mono ?_; rintro e w1 ⟨rfl, hb⟩))
  go_ret
  exact ⟨ret_u Hk.out.symm, hb.alloc hb.size _⟩

/-- A thread's counts. -/
def thrAt (l : List Thr) (n : Int) : Option Thr := if 0 ≤ n then l[n.toNat]? else none
theorem thrAt_cases (l : List Thr) (n : Int) : (∃ (i : Nat) (t : Thr), n = i ∧ i < l.length ∧ l[i]? = some t ∧ thrAt l n = some t) ∨ (thrAt l n = none ∧ (n < 0 ∨ (0 ≤ n ∧ (l.length : Int) ≤ n))) := by
  unfold thrAt
  by_cases h0 : 0 ≤ n
  · by_cases h1 : n < (l.length : Int)
    · refine .inl ⟨n.toNat, l[n.toNat]'(by omega), by omega, by omega, List.getElem?_eq_getElem (by omega), ?_⟩
      rw [if_pos h0]; exact List.getElem?_eq_getElem (by omega)
    · refine .inr ⟨?_, .inr ⟨h0, by omega⟩⟩
      rw [if_pos h0]; exact List.getElem?_eq_none (by omega)
  · refine .inr ⟨by rw [if_neg h0], .inl (by omega)⟩

theorem flat3_get (l : List Thr) (i : Nat) (t : Thr) (h : l[i]? = some t) : (thrCells l)[i * 3]? = some (.int .i64 t.calls) ∧ (thrCells l)[i * 3 + 1]? = some (.int .i64 t.inserts) ∧ (thrCells l)[i * 3 + 2]? = some (.int .i64 t.made) := by
  unfold thrCells
  simp only [List.getElem?_toArray]
  induction l generalizing i with
  | nil => cases h
  | cons a l ih =>
    cases i with
    | zero => cases h; exact ⟨rfl, rfl, rfl⟩
    | succ i =>
      have e : (i + 1) * 3 = i * 3 + 3 := by omega
      have := ih i h
      rw [e]
      exact this

set_option maxRecDepth 100000 in
set_option maxHeartbeats 1000000 in
theorem thread_in {k : Blks} {s : St} (i : Nat) (w : World) (h : Holds k s w) (hi : i < s.thr.length) :
    Calls Tryz.prog 126 #[.pointer (some ⟨k.bb, 0, none⟩), .int .i64 i] w fun e w' => e = .returned (.pointer (some ⟨k.bt, i * 3, none⟩)) ∧ w = w' := by
  obtain ⟨_, b5, b6, b7, bl⟩ := h.bfacts
  have ht := h.ok.thr
  have hm := may_bounds h.ok.may
  have hs : s.thr.length ≤ 8 := by omega
  clear ht hm
  go_enter Tryz.func126, Tryz.ntmps126
  go_wp2
  go_ret
  exact ⟨rfl, rfl⟩

set_option maxRecDepth 100000 in
set_option maxHeartbeats 1000000 in
theorem thread_out {k : Blks} {s : St} (n : Int) (w : World) (h : Holds k s w) (hn : n < 0 ∨ (0 ≤ n ∧ (s.thr.length : Int) ≤ n)) :
    Calls Tryz.prog 126 #[.pointer (some ⟨k.bb, 0, none⟩), .int .i64 n] w fun e w' => e = .returned (.pointer none) ∧ w = w' := by
  obtain ⟨_, b5, b6, b7, bl⟩ := h.bfacts
  rcases hn with hn | ⟨h0, hn⟩
  all_goals
    go_enter Tryz.func126, Tryz.ntmps126
    go_wp2
    go_ret
    exact ⟨rfl, rfl⟩

end Go.Proofs.YtccmjljlfgbicaaGreat
