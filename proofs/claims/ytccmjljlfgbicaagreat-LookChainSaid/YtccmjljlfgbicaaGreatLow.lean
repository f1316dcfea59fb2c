/- Contracts of the lowest functions: references, words' ends, buckets, bounds. -/
import Derived.Test.YtccmjljlfgbicaaGreatRows
import Derived.WalkKit
import Derived.WalkSpells
import Derived.WalkLawsBesides
import Derived.ProofKit
import Derived.OpenShut
import Derived.Lib.Hide
import Derived.Deep.QuietTactic
import Derived.BigQuiet
import Derived.StillTailTactics
import Derived.Deep.RegionHeld3
namespace Go.Proofs.YtccmjljlfgbicaaGreat
open Go.ChangeShapes Go.WideShapes Go.ChangeAt Go.RowKit

theorem ret_u {k : IntKind} {a b : Int} (h : a = b) : Ending.returned (.int k a) = .returned (.int k b) := by rw [h]
theorem ret_b {a b : Bool} (h : a = b) : Ending.returned (.bool a) = .returned (.bool b) := by rw [h]

/-- 1 or 0. -/
def b2i (m : Bool) : Int := if m then 1 else 0
theorem b2i_range (m : Bool) : 0 ≤ b2i m ∧ b2i m ≤ 1 := by cases m <;> simp [b2i]
/-- What a reference of a node is. -/
def refOf (n : Int) (m : Bool) : Int := if 0 ≤ n ∧ n ≤ 2147483647 then 2 * n + b2i m else 0
theorem refOf_in {n : Int} {m : Bool} (h : 0 ≤ n ∧ n ≤ 2147483647) : refOf n m = 2 * n + b2i m := by unfold refOf; rw [if_pos h]
theorem refOf_out {n : Int} {m : Bool} (h : ¬ (0 ≤ n ∧ n ≤ 2147483647)) : refOf n m = 0 := by unfold refOf; rw [if_neg h]
theorem refOf_range (n : Int) (m : Bool) : 0 ≤ refOf n m ∧ refOf n m ≤ 4294967295 := by
  have := b2i_range m
  unfold refOf; split <;> omega
/-- A reference, marked. -/
def markOf (a : Int) : Int := a / 2 * 2 + 1
theorem markOf_range {a : Int} (h0 : 0 ≤ a) (h1 : a ≤ 18446744073709551615) : 0 ≤ markOf a ∧ markOf a ≤ 18446744073709551615 := by unfold markOf; omega

theorem bits_and1 (a : Int) (h0 : 0 ≤ a) (h1 : a ≤ 18446744073709551615) : bits .and .u64 a 1 = a % 2 := by
  obtain ⟨n, rfl⟩ := Int.eq_ofNat_of_zero_le h0
  have := bits_and_u64_nat n 1 (by omega) (by omega)
  rw [Nat.and_one_is_mod] at this
  rw [show ((1 : Int)) = ((1 : Nat) : Int) from rfl, this]
  omega
theorem or_bit (n b : Nat) (hb : b ≤ 1) : 2 * n ||| b = 2 * n + b := by
  rw [Nat.mul_comm, show n * 2 = n * 2 ^ 1 from rfl, ← Nat.shiftLeft_eq]
  exact (Nat.shiftLeft_add_eq_or_of_lt (by omega) n).symm
theorem or_one (n : Nat) : n ||| 1 = n / 2 * 2 + 1 := by
  apply Nat.eq_of_testBit_eq
  intro i
  have e : n / 2 * 2 + 1 = 2 * (n / 2) ||| 1 := by rw [or_bit _ 1 (by omega)]; omega
  rw [e, Nat.testBit_or, Nat.testBit_or]
  cases i with
  | zero => simp
  | succ i =>
    have e1 : Nat.testBit 1 (i + 1) = false := by simp [Nat.testBit_succ]
    rw [e1, Bool.or_false, Bool.or_false, Nat.testBit_succ, Nat.testBit_succ]
    congr 1
    omega
theorem bits_or1 (a : Int) (h0 : 0 ≤ a) (h1 : a ≤ 18446744073709551615) : bits .or .u64 a 1 = markOf a := by
  obtain ⟨n, rfl⟩ := Int.eq_ofNat_of_zero_le h0
  have := bits_or_u64_nat n 1 (by omega) (by omega)
  rw [or_one] at this
  rw [show ((1 : Int)) = ((1 : Nat) : Int) from rfl, this]
  unfold markOf
  omega
theorem bits_or_pack (n : Int) (m : Bool) (h0 : 0 ≤ n) (h1 : n ≤ 2147483647) : bits .or .u64 (n * 2) (b2i m) = refOf n m := by
  obtain ⟨k, rfl⟩ := Int.eq_ofNat_of_zero_le h0
  rw [refOf_in ⟨h0, h1⟩]
  cases m
  · have := bits_or_u64_nat (2 * k) 0 (by omega) (by omega)
    rw [or_bit _ 0 (by omega)] at this
    rw [show ((k : Int) * 2) = ((2 * k : Nat) : Int) by omega, show b2i false = ((0 : Nat) : Int) from rfl, this]
    omega
  · have := bits_or_u64_nat (2 * k) 1 (by omega) (by omega)
    rw [or_bit _ 1 (by omega)] at this
    rw [show ((k : Int) * 2) = ((2 * k : Nat) : Int) by omega, show b2i true = ((1 : Nat) : Int) from rfl, this]
    omega

set_option maxHeartbeats 400000 in
theorem index_any (a : Int) (w : World) (_h0 : 0 ≤ a) (_h1 : a ≤ 18446744073709551615) :
    Calls Tryz.prog 70 #[.int .u64 a] w fun e w' => e = .returned (.int .i64 (a / 2)) ∧ w = w' := by
  go_enter Tryz.func70, Tryz.ntmps70
  go_wp2
  go_ret
  exact ⟨rfl, rfl⟩

set_option maxHeartbeats 400000 in
theorem marked_any (a : Int) (w : World) (h0 : 0 ≤ a) (h1 : a ≤ 18446744073709551615) :
    Calls Tryz.prog 153 #[.int .u64 a] w fun e w' => e = .returned (.bool (a % 2 == 1)) ∧ w = w' := by
  go_enter Tryz.func153, Tryz.ntmps153
  go_wp2
  go_ret
  exact ⟨ret_b (by rw [bits_and1 a h0 h1]), rfl⟩

set_option maxHeartbeats 400000 in
theorem mark_any (a : Int) (w : World) (h0 : 0 ≤ a) (h1 : a ≤ 18446744073709551615) :
    Calls Tryz.prog 159 #[.int .u64 a] w fun e w' => e = .returned (.int .u64 (markOf a)) ∧ w = w' := by
  go_enter Tryz.func159, Tryz.ntmps159
  go_wp2
  go_ret
  exact ⟨ret_u (bits_or1 a h0 h1), rfl⟩

set_option maxHeartbeats 400000 in
theorem pack1_any (m : Bool) (c : Addr) (w : World) (hc : w.cell? c = some (.bool m)) :
    Calls Tryz.prog 190 #[.pointer (some c)] w fun e w' => e = .returned (.int .u64 (b2i m)) ∧ w = w' := by
  cases m
  all_goals
    go_enter Tryz.func190, Tryz.ntmps190
    go_wp2
    go_ret
    exact ⟨rfl, rfl⟩

set_option maxHeartbeats 400000 in
theorem pack_any (n : Int) (m : Bool) (w : World) :
    Calls Tryz.prog 155 #[.int .i64 n, .bool m] w fun e w' => e = .returned (.int .u64 (refOf n m)) ∧ Below w.heap.size w w' := by
  by_cases h0 : 0 ≤ n
  · by_cases h1 : n ≤ 2147483647
    · go_enter Tryz.func155, Tryz.ntmps155
      go_wp2_with (go_at_call 190; refine (pack1_any m _ _ (by go_simp)).mono ?_; rintro e w1 ⟨rfl, rfl⟩)
      go_ret
      exact ⟨ret_u (bits_or_pack n m h0 h1), ((Below.refl _ _).alloc (Nat.le_refl _) _).alloc (by simp) _⟩
    · go_enter Tryz.func155, Tryz.ntmps155
      go_wp2
      go_ret
      exact ⟨ret_u (refOf_out (by omega)).symm, (Below.refl _ _).alloc (Nat.le_refl _) _⟩
  · go_enter Tryz.func155, Tryz.ntmps155
    go_wp2
    go_ret
    exact ⟨ret_u (refOf_out (by omega)).symm, (Below.refl _ _).alloc (Nat.le_refl _) _⟩

set_option maxHeartbeats 400000 in
theorem over_any (a : Int) (w : World) :
    Calls Tryz.prog 157 #[.int .u64 a] w fun e w' => e = .returned (.bool (decide (1 < a))) ∧ w = w' := by
  go_enter Tryz.func157, Tryz.ntmps157
  go_wp2
  go_ret
  exact ⟨rfl, rfl⟩

/-- Does n lie between a and b? -/
def inB (n a b : Int) : Bool := decide (a ≤ n ∧ n ≤ b)
theorem inB_iff {n a b : Int} : inB n a b = true ↔ a ≤ n ∧ n ≤ b := by simp [inB]

set_option maxHeartbeats 400000 in
theorem within_any (n a b : Int) (w : World) :
    Calls Tryz.prog 199 #[.int .i64 n, .int .i64 a, .int .i64 b] w fun e w' => e = .returned (.bool (inB n a b)) ∧ w = w' := by
  by_cases h0 : a ≤ n
  · go_enter Tryz.func199, Tryz.ntmps199
    go_wp2
    go_ret
    exact ⟨ret_b (by simp [inB, h0]), rfl⟩
  · have h0' : decide (a ≤ n) = false := by simpa using h0
    go_enter Tryz.func199, Tryz.ntmps199
    go_wp2
    go_ret
    exact ⟨ret_b (by simp [inB]; omega), rfl⟩

end Go.Proofs.YtccmjljlfgbicaaGreat
