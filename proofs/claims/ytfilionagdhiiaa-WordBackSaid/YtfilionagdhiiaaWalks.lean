/- Contracts of the word functions and of their references: each returns the plain Lean function's value. -/
import Derived.Test.YtfilionagdhiiaaRows
import Derived.WalkKit
import Derived.WalkSpells
import Derived.WalkLawsBesides
import Derived.ProofKit
import Derived.OpenShut
import Derived.Lib.Hide
namespace Go.Proofs.Ytfilionagdhiiaa
open Go.ChangeShapes Go.WideShapes Go.ChangeAt Go.RowKit

/-- What is told of an operation with something added. -/
def sh (a b : Int) : Int := if 0 ≤ a ∧ a ≤ 2147483647 then a + b else 0
/-- What is told of a word with something taken off. -/
def bk (a b : Int) : Int := if b ≤ a ∧ a ≤ b + 2147483647 then a - b else -1

theorem sh_in {a b : Int} (h : 0 ≤ a ∧ a ≤ 2147483647) : sh a b = a + b := by unfold sh; rw [if_pos h]
theorem sh_out {a b : Int} (h : ¬ (0 ≤ a ∧ a ≤ 2147483647)) : sh a b = 0 := by unfold sh; rw [if_neg h]
theorem bk_in {a b : Int} (h : b ≤ a ∧ a ≤ b + 2147483647) : bk a b = a - b := by unfold bk; rw [if_pos h]
theorem bk_out {a b : Int} (h : ¬ (b ≤ a ∧ a ≤ b + 2147483647)) : bk a b = -1 := by unfold bk; rw [if_neg h]

theorem ret_u {k : IntKind} {a b : Int} (h : a = b) : Ending.returned (.int k a) = .returned (.int k b) := by rw [h]

set_option maxHeartbeats 400000 in
theorem over_any (a : Int) (w : World) :
    Calls Try.prog 17 #[.int .u64 a] w fun e w' => e = .returned (.bool (decide (1 < a))) ∧ w = w' := by
  go_enter Try.func17, Try.ntmps17
  go_wp2
  go_ret
  exact ⟨rfl, rfl⟩

set_option maxHeartbeats 400000 in
theorem rover_any (a : Int) (w : World) :
    Calls Try.prog 18 #[.int .u64 a] w fun e w' => e = .returned (.bool (decide (2 ≤ a))) ∧ w = w' := by
  go_enter Try.func18, Try.ntmps18
  go_wp2
  go_ret
  exact ⟨rfl, rfl⟩

set_option maxHeartbeats 400000 in
theorem shifted_any (a b : Int) (w : World) (hb0 : 0 ≤ b) (hb : b ≤ 3) :
    Calls Try.prog 19 #[.int .i64 a, .int .u64 b] w fun e w' => e = .returned (.int .u64 (sh a b)) ∧ Grown w w' := by
  by_cases h0 : 0 ≤ a
  · by_cases h1 : a ≤ 2147483647
    · go_enter Try.func19, Try.ntmps19
      go_wp2
      go_ret
      exact ⟨ret_u (sh_in ⟨h0, h1⟩).symm, by repeat (first | exact Grown.refl _ | apply Grown.drew | apply Grown.alloc)⟩
    · go_enter Try.func19, Try.ntmps19
      go_wp2
      go_ret
      exact ⟨ret_u (sh_out (by omega)).symm, by repeat (first | exact Grown.refl _ | apply Grown.drew | apply Grown.alloc)⟩
  · go_enter Try.func19, Try.ntmps19
    go_wp2
    go_ret
    exact ⟨ret_u (sh_out (by omega)).symm, by repeat (first | exact Grown.refl _ | apply Grown.drew | apply Grown.alloc)⟩

set_option maxHeartbeats 400000 in
theorem back_any (a b : Int) (w : World) (h0 : 0 ≤ a) (h1 : a ≤ 18446744073709551615) (hb0 : 0 ≤ b) (hb : b ≤ 3) :
    Calls Try.prog 21 #[.int .u64 a, .int .u64 b] w fun e w' => e = .returned (.int .i64 (bk a b)) ∧ w = w' := by
  by_cases g0 : b ≤ a
  · by_cases g1 : a - b ≤ 2147483647
    · go_enter Try.func21, Try.ntmps21
      go_wp2
      go_ret
      exact ⟨ret_u (bk_in (by omega)).symm, rfl⟩
    · go_enter Try.func21, Try.ntmps21
      go_wp2
      go_ret
      exact ⟨ret_u (bk_out (by omega)).symm, rfl⟩
  · go_enter Try.func21, Try.ntmps21
    go_wp2
    go_ret
    exact ⟨ret_u (bk_out (by omega)).symm, rfl⟩

theorem ret_b {a b : Bool} (h : a = b) : Ending.returned (.bool a) = .returned (.bool b) := by rw [h]

set_option maxHeartbeats 400000 in
theorem may_any (a : Int) (w : World) :
    Calls Try.prog 20 #[.int .i64 a] w fun e w' => e = .returned (.bool (decide (0 ≤ a ∧ a ≤ 2147483647))) ∧ w = w' := by
  by_cases h0 : 0 ≤ a
  · by_cases h1 : a ≤ 2147483647
    · go_enter Try.func20, Try.ntmps20
      go_wp2
      go_ret
      exact ⟨ret_b (decide_eq_true ⟨h0, h1⟩).symm, rfl⟩
    · go_enter Try.func20, Try.ntmps20
      go_wp2
      go_ret
      exact ⟨ret_b (decide_eq_false (by omega)).symm, rfl⟩
  · go_enter Try.func20, Try.ntmps20
    go_wp2
    go_ret
    exact ⟨ret_b (by simp; omega), rfl⟩

set_option maxHeartbeats 400000 in
theorem out_any (a : Int) (w : World) :
    Calls Try.prog 9 #[.int .i64 a] w fun e w' => e = .returned (.int .u64 (sh a 3)) ∧ Grown w w' := by
  go_enter Try.func9, Try.ntmps9
  go_wp2_with (go_at_call 19; refine (shifted_any _ _ _ (by omega) (by omega)).mono ?_; rintro e w1 ⟨rfl, hg⟩)
  go_ret
  exact ⟨rfl, hg⟩

set_option maxHeartbeats 400000 in
theorem target_any (a : Int) (w : World) :
    Calls Try.prog 11 #[.int .i64 a] w fun e w' => e = .returned (.int .u64 (sh a 2)) ∧ Grown w w' := by
  go_enter Try.func11, Try.ntmps11
  go_wp2_with (go_at_call 19; refine (shifted_any _ _ _ (by omega) (by omega)).mono ?_; rintro e w1 ⟨rfl, hg⟩)
  go_ret
  exact ⟨rfl, hg⟩

set_option maxHeartbeats 400000 in
theorem rout_any (a : Int) (w : World) :
    Calls Try.prog 10 #[.int .i64 a] w fun e w' => e = .returned (.int .u64 (sh a 3)) ∧ w = w' := by
  by_cases h0 : 0 ≤ a
  · by_cases h1 : a ≤ 2147483647
    · go_enter Try.func10, Try.ntmps10
      go_wp2
      go_ret
      exact ⟨ret_u (sh_in ⟨h0, h1⟩).symm, rfl⟩
    · go_enter Try.func10, Try.ntmps10
      go_wp2
      go_ret
      exact ⟨ret_u (sh_out (by omega)).symm, rfl⟩
  · go_enter Try.func10, Try.ntmps10
    go_wp2
    go_ret
    exact ⟨ret_u (sh_out (by omega)).symm, rfl⟩

set_option maxHeartbeats 400000 in
theorem rtarget_any (a : Int) (w : World) :
    Calls Try.prog 12 #[.int .i64 a] w fun e w' => e = .returned (.int .u64 (sh a 2)) ∧ w = w' := by
  by_cases h0 : 0 ≤ a
  · by_cases h1 : a ≤ 2147483647
    · go_enter Try.func12, Try.ntmps12
      go_wp2
      go_ret
      exact ⟨ret_u (sh_in ⟨h0, h1⟩).symm, rfl⟩
    · go_enter Try.func12, Try.ntmps12
      go_wp2
      go_ret
      exact ⟨ret_u (sh_out (by omega)).symm, rfl⟩
  · go_enter Try.func12, Try.ntmps12
    go_wp2
    go_ret
    exact ⟨ret_u (sh_out (by omega)).symm, rfl⟩

set_option maxHeartbeats 400000 in
theorem by_any (a : Int) (w : World) (h0 : 0 ≤ a) (h1 : a ≤ 18446744073709551615) :
    Calls Try.prog 13 #[.int .u64 a] w fun e w' => e = .returned (.int .i64 (bk a 3)) ∧ w = w' := by
  go_enter Try.func13, Try.ntmps13
  go_wp2_with (go_at_call 21; refine (back_any _ _ _ h0 h1 (by omega) (by omega)).mono ?_; rintro e w1 ⟨rfl, rfl⟩)
  go_ret
  exact ⟨rfl, rfl⟩

set_option maxHeartbeats 400000 in
theorem of_any (a : Int) (w : World) (h0 : 0 ≤ a) (h1 : a ≤ 18446744073709551615) :
    Calls Try.prog 15 #[.int .u64 a] w fun e w' => e = .returned (.int .i64 (bk a 2)) ∧ w = w' := by
  go_enter Try.func15, Try.ntmps15
  go_wp2_with (go_at_call 21; refine (back_any _ _ _ h0 h1 (by omega) (by omega)).mono ?_; rintro e w1 ⟨rfl, rfl⟩)
  go_ret
  exact ⟨rfl, rfl⟩

set_option maxHeartbeats 400000 in
theorem rby_any (a : Int) (w : World) (h0 : 0 ≤ a) (h1 : a ≤ 18446744073709551615) :
    Calls Try.prog 14 #[.int .u64 a] w fun e w' => e = .returned (.int .i64 (bk a 3)) ∧ w = w' := by
  by_cases g0 : 3 ≤ a
  · by_cases g1 : a ≤ 2147483650
    · go_enter Try.func14, Try.ntmps14
      go_wp2
      go_ret
      exact ⟨ret_u (bk_in (by omega)).symm, rfl⟩
    · go_enter Try.func14, Try.ntmps14
      go_wp2
      go_ret
      exact ⟨ret_u (bk_out (by omega)).symm, rfl⟩
  · go_enter Try.func14, Try.ntmps14
    go_wp2
    go_ret
    exact ⟨ret_u (bk_out (by omega)).symm, rfl⟩

set_option maxHeartbeats 400000 in
theorem rof_any (a : Int) (w : World) (h0 : 0 ≤ a) (h1 : a ≤ 18446744073709551615) :
    Calls Try.prog 16 #[.int .u64 a] w fun e w' => e = .returned (.int .i64 (bk a 2)) ∧ w = w' := by
  by_cases g0 : 2 ≤ a
  · by_cases g1 : a ≤ 2147483649
    · go_enter Try.func16, Try.ntmps16
      go_wp2
      go_ret
      exact ⟨ret_u (bk_in (by omega)).symm, rfl⟩
    · go_enter Try.func16, Try.ntmps16
      go_wp2
      go_ret
      exact ⟨ret_u (bk_out (by omega)).symm, rfl⟩
  · go_enter Try.func16, Try.ntmps16
    go_wp2
    go_ret
    exact ⟨ret_u (bk_out (by omega)).symm, rfl⟩

set_option maxHeartbeats 1000000 in
theorem awake_any (w : World) :
    Calls Try.prog 8 #[] w fun e w' => e = .returned (.bool true) ∧ Grown w w' := by
  go_enter Try.func8, Try.ntmps8
  go_wp2
  go_ret
  exact ⟨rfl, by repeat (first | exact Grown.refl _ | apply Grown.drew | apply Grown.alloc)⟩

end Go.Proofs.Ytfilionagdhiiaa
