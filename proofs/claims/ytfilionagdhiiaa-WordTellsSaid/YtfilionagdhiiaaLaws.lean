/- The walks of the laws on words: each returns true. -/
import Derived.Test.YtfilionagdhiiaaWalks
namespace Go.Proofs.Ytfilionagdhiiaa
open Go.ChangeShapes Go.WideShapes Go.ChangeAt Go.RowKit

theorem gr_trans {a b c : World} (h : Grown a b) (k : Grown b c) : Grown a c :=
  ⟨World.keptBut_trans h.1 k.1, fun x => (k.2.1 x).trans (h.2.1 x), Nat.le_trans h.2.2 k.2.2⟩
theorem sh_range (a b : Int) (h0 : 0 ≤ b) (h1 : b ≤ 3) : 0 ≤ sh a b ∧ sh a b ≤ 2147483650 := by unfold sh; split <;> omega
theorem bk_sh (a b : Int) (h0 : 0 ≤ a) (h1 : a ≤ 2147483647) : bk (sh a b) b = a := by rw [sh_in ⟨h0, h1⟩]; unfold bk; rw [if_pos (by omega)]; omega

set_option maxHeartbeats 400000 in
theorem wordOuts_walk (a : Int) (w : World) :
    Calls Try.prog 3 #[.int .i64 a] w fun e w' => e = .returned (.bool true) ∧ Grown w w' := by
  go_enter Try.func3, Try.ntmps3
  go_wp2_with (first | (go_at_call 8; refine (awake_any _).mono ?_; rintro e w1 ⟨rfl, hg1⟩) | (go_at_call 9; refine (out_any _ _).mono ?_; rintro e w2 ⟨rfl, hg2⟩) | (go_at_call 10; refine (rout_any _ _).mono ?_; rintro e w3 ⟨rfl, rfl⟩) | (go_at_call 11; refine (target_any _ _).mono ?_; rintro e w4 ⟨rfl, hg4⟩) | (go_at_call 12; refine (rtarget_any _ _).mono ?_; rintro e w5 ⟨rfl, rfl⟩))
  go_ret
  exact ⟨rfl, gr_trans (gr_trans hg1 hg2) hg4⟩

set_option maxHeartbeats 400000 in
theorem wordTells_walk (a : Int) (w : World) (h0 : 0 ≤ a) (h1 : a ≤ 18446744073709551615) :
    Calls Try.prog 4 #[.int .u64 a] w fun e w' => e = .returned (.bool true) ∧ Grown w w' := by
  have ho : (decide (1 < a) == decide (2 ≤ a)) = true := by rw [beq_iff_eq, Bool.eq_iff_iff]; simp; omega
  go_enter Try.func4, Try.ntmps4
  go_wp2_with (first | (go_at_call 8; refine (awake_any _).mono ?_; rintro e w1 ⟨rfl, hg1⟩) | (go_at_call 13; refine (by_any _ _ h0 h1).mono ?_; rintro e w2 ⟨rfl, rfl⟩) | (go_at_call 14; refine (rby_any _ _ h0 h1).mono ?_; rintro e w3 ⟨rfl, rfl⟩) | (go_at_call 15; refine (of_any _ _ h0 h1).mono ?_; rintro e w4 ⟨rfl, rfl⟩) | (go_at_call 16; refine (rof_any _ _ h0 h1).mono ?_; rintro e w5 ⟨rfl, rfl⟩) | (go_at_call 17; refine (over_any _ _).mono ?_; rintro e w5 ⟨rfl, rfl⟩) | (go_at_call 18; refine (rover_any _ _).mono ?_; rintro e w5 ⟨rfl, rfl⟩))
  go_ret
  exact ⟨rfl, hg1⟩

theorem out_in (a : Int) (w : World) (h0 : 0 ≤ a) (h1 : a ≤ 2147483647) :
    Calls Try.prog 9 #[.int .i64 a] w fun e w' => e = .returned (.int .u64 (a + 3)) ∧ Grown w w' :=
  (out_any a w).mono fun _ _ ⟨he, hg⟩ => ⟨he.trans (ret_u (sh_in ⟨h0, h1⟩)), hg⟩
theorem target_in (a : Int) (w : World) (h0 : 0 ≤ a) (h1 : a ≤ 2147483647) :
    Calls Try.prog 11 #[.int .i64 a] w fun e w' => e = .returned (.int .u64 (a + 2)) ∧ Grown w w' :=
  (target_any a w).mono fun _ _ ⟨he, hg⟩ => ⟨he.trans (ret_u (sh_in ⟨h0, h1⟩)), hg⟩
theorem by_in (a : Int) (w : World) (h0 : 0 ≤ a) (h1 : a ≤ 2147483647) :
    Calls Try.prog 13 #[.int .u64 (a + 3)] w fun e w' => e = .returned (.int .i64 a) ∧ w = w' :=
  (by_any (a + 3) w (by omega) (by omega)).mono fun _ _ ⟨he, hg⟩ => ⟨he.trans (ret_u (by rw [bk_in (by omega)]; omega)), hg⟩
theorem of_in (a : Int) (w : World) (h0 : 0 ≤ a) (h1 : a ≤ 2147483647) :
    Calls Try.prog 15 #[.int .u64 (a + 2)] w fun e w' => e = .returned (.int .i64 a) ∧ w = w' :=
  (of_any (a + 2) w (by omega) (by omega)).mono fun _ _ ⟨he, hg⟩ => ⟨he.trans (ret_u (by rw [bk_in (by omega)]; omega)), hg⟩
theorem over_yes (a : Int) (w : World) (h : 1 < a) :
    Calls Try.prog 17 #[.int .u64 a] w fun e w' => e = .returned (.bool true) ∧ w = w' :=
  (over_any a w).mono fun _ _ ⟨he, hg⟩ => ⟨he.trans (ret_b (decide_eq_true h)), hg⟩
theorem over_no (a : Int) (w : World) (h : ¬ 1 < a) :
    Calls Try.prog 17 #[.int .u64 a] w fun e w' => e = .returned (.bool false) ∧ w = w' :=
  (over_any a w).mono fun _ _ ⟨he, hg⟩ => ⟨he.trans (ret_b (decide_eq_false h)), hg⟩
set_option maxHeartbeats 1000000 in
theorem wordBack_walk (a : Int) (w : World) (h0 : 0 ≤ a) (h1 : a ≤ 4294967295) :
    Calls Try.prog 5 #[.int .u32 a] w fun e w' => e = .returned (.bool true) ∧ Grown w w' := by
  have hm0 : 0 ≤ a % 2147483648 := by omega
  have hm1 : a % 2147483648 ≤ 2147483647 := by omega
  go_enter Try.func5, Try.ntmps5
  go_wp2_with fail
  refine (awake_any _).mono ?_; rintro e w1 ⟨rfl, hg1⟩
  go_wp2_with fail
  refine (out_in _ _ hm0 hm1).mono ?_; rintro e w2 ⟨rfl, hg2⟩
  go_wp2_with fail
  refine (by_in _ _ hm0 hm1).mono ?_; rintro e w3 ⟨rfl, rfl⟩
  go_wp2_with fail
  refine (target_in _ _ hm0 hm1).mono ?_; rintro e w4 ⟨rfl, hg4⟩
  go_wp2_with fail
  refine (of_in _ _ hm0 hm1).mono ?_; rintro e w5 ⟨rfl, rfl⟩
  go_wp2_with fail
  refine (out_in _ _ hm0 hm1).mono ?_; rintro e w6 ⟨rfl, hg6⟩
  go_wp2_with fail
  refine (over_yes _ _ (by omega)).mono ?_; rintro e w7 ⟨rfl, rfl⟩
  go_wp2_with fail
  refine (target_in _ _ hm0 hm1).mono ?_; rintro e w8 ⟨rfl, hg8⟩
  go_wp2_with fail
  refine (over_yes _ _ (by omega)).mono ?_; rintro e w9 ⟨rfl, rfl⟩
  go_wp2_with fail
  go_ret
  exact ⟨rfl, gr_trans (gr_trans (gr_trans (gr_trans hg1 hg2) hg4) hg6) hg8⟩

set_option maxHeartbeats 1000000 in
theorem wordOver_walk (a : Int) (w : World) (h0 : 0 ≤ a) (h1 : a ≤ 18446744073709551615) :
    Calls Try.prog 6 #[.int .u64 a] w fun e w' => e = .returned (.bool true) ∧ Grown w w' := by
  by_cases hov : 1 < a
  · have e0 : (a != 0) = true := by rw [bne_iff_ne]; omega
    have e1 : (a != 1) = true := by rw [bne_iff_ne]; omega
    go_enter Try.func6, Try.ntmps6
    go_wp2_with (first | (go_at_call 8; refine (awake_any _).mono ?_; rintro e w1 ⟨rfl, hg1⟩) | (go_at_call 13; refine (by_any _ _ h0 h1).mono ?_; rintro e w2 ⟨rfl, rfl⟩) | (go_at_call 15; refine (of_any _ _ h0 h1).mono ?_; rintro e w4 ⟨rfl, rfl⟩) | (go_at_call 17; refine (over_yes _ _ hov).mono ?_; rintro e w5 ⟨rfl, rfl⟩))
    all_goals
      go_ret
      exact ⟨rfl, hg1⟩
  · have hb3 : bk a 3 = -1 := bk_out (by omega)
    have hb2 : bk a 2 = -1 := bk_out (by omega)
    have hor : a = 0 ∨ a = 1 := by omega
    clear hov
    rcases hor with rfl | rfl
    all_goals
      go_enter Try.func6, Try.ntmps6
      go_wp2_with (first | (go_at_call 8; refine (awake_any _).mono ?_; rintro e w1 ⟨rfl, hg1⟩) | (go_at_call 13; refine (by_any _ _ h0 h1).mono ?_; rintro e w2 ⟨rfl, rfl⟩) | (go_at_call 15; refine (of_any _ _ h0 h1).mono ?_; rintro e w4 ⟨rfl, rfl⟩) | (go_at_call 17; refine (over_no _ _ (by omega)).mono ?_; rintro e w5 ⟨rfl, rfl⟩))
      go_ret
      exact ⟨rfl, hg1⟩

set_option maxHeartbeats 1000000 in
theorem wordApart_walk (a b : Int) (w : World) (h0 : 0 ≤ a) (h1 : a ≤ 4294967295) (k0 : 0 ≤ b) (k1 : b ≤ 4294967295) :
    Calls Try.prog 7 #[.int .u32 a, .int .u32 b] w fun e w' => e = .returned (.bool true) ∧ Grown w w' := by
  have hm0 : 0 ≤ a % 2147483648 := by omega
  have hm1 : a % 2147483648 ≤ 2147483647 := by omega
  have km0 : 0 ≤ b % 2147483648 := by omega
  have km1 : b % 2147483648 ≤ 2147483647 := by omega
  have t3 : ((a % 2147483648 + 3 == b % 2147483648 + 3) == (a % 2147483648 == b % 2147483648)) = true := by
    rw [beq_iff_eq, Bool.eq_iff_iff, beq_iff_eq, beq_iff_eq]; omega
  have t2 : ((a % 2147483648 + 2 == b % 2147483648 + 2) == (a % 2147483648 == b % 2147483648)) = true := by
    rw [beq_iff_eq, Bool.eq_iff_iff, beq_iff_eq, beq_iff_eq]; omega
  have n2 : (a % 2147483648 + 3 != 2) = true := by rw [bne_iff_ne]; omega
  have n1 : (a % 2147483648 + 3 != 1) = true := by rw [bne_iff_ne]; omega
  go_enter Try.func7, Try.ntmps7
  go_wp2_with fail
  refine (awake_any _).mono ?_; rintro e w1 ⟨rfl, hg1⟩
  go_wp2_with fail
  refine (out_in _ _ hm0 hm1).mono ?_; rintro e w2 ⟨rfl, hg2⟩
  go_wp2_with fail
  refine (out_in _ _ km0 km1).mono ?_; rintro e w3 ⟨rfl, hg3⟩
  go_wp2_with fail
  refine (target_in _ _ hm0 hm1).mono ?_; rintro e w4 ⟨rfl, hg4⟩
  go_wp2_with fail
  refine (target_in _ _ km0 km1).mono ?_; rintro e w5 ⟨rfl, hg5⟩
  go_wp2_with fail
  refine (out_in _ _ hm0 hm1).mono ?_; rintro e w6 ⟨rfl, hg6⟩
  go_wp2_with fail
  refine (out_in _ _ hm0 hm1).mono ?_; rintro e w7 ⟨rfl, hg7⟩
  go_wp2_with fail
  go_ret
  exact ⟨rfl, gr_trans (gr_trans (gr_trans (gr_trans (gr_trans (gr_trans hg1 hg2) hg3) hg4) hg5) hg6) hg7⟩

theorem wf_u64 {a : Int} (h : (Lit.int .u64 a).wf = true) : 0 ≤ a ∧ a ≤ 18446744073709551615 := by
  simp [Lit.wf, IntKind.min, IntKind.max, IntKind.signed, IntKind.bits] at h; omega
theorem wf_u32 {a : Int} (h : (Lit.int .u32 a).wf = true) : 0 ≤ a ∧ a ≤ 4294967295 := by
  simp [Lit.wf, IntKind.min, IntKind.max, IntKind.signed, IntKind.bits] at h; omega

end Go.Proofs.Ytfilionagdhiiaa
