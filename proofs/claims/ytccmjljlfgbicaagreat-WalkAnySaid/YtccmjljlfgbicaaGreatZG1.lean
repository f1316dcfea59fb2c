/- Contracts of the lowest functions: references, words' ends, buckets, bounds. -/
import Derived.Test.YtccmjljlfgbicaaGreatRows
import Derived.WalkKit
import Derived.WalkSpells
import Derived.WalkLawsBesides
import Derived.ProofKit
import Derived.OpenShut
import Derived.Lib.Hide
import Derived.Deep.QuietTactic
import Derived.BigQuiet
import Derived.StillTailTactics
import Derived.Deep.RegionHeld3
import Derived.Handy
namespace Go.Proofs.YtccmjljlfgbicaaGreat
open Go.ChangeShapes Go.WideShapes Go.ChangeAt Go.RowKit

theorem ret_u {k : IntKind} {a b : Int} (h : a = b) : Ending.returned (.int k a) = .returned (.int k b) := by rw [h]
theorem ret_b {a b : Bool} (h : a = b) : Ending.returned (.bool a) = .returned (.bool b) := by rw [h]

/-- 1 or 0. -/
def b2i (m : Bool) : Int := if m then 1 else 0
theorem b2i_range (m : Bool) : 0 ≤ b2i m ∧ b2i m ≤ 1 := by cases m <;> simp [b2i]
/-- What a reference of a node is. -/
def refOf (n : Int) (m : Bool) : Int := if 0 ≤ n ∧ n ≤ 2147483647 then 2 * n + b2i m else 0
theorem refOf_in {n : Int} {m : Bool} (h : 0 ≤ n ∧ n ≤ 2147483647) : refOf n m = 2 * n + b2i m := by unfold refOf; rw [if_pos h]
theorem refOf_out {n : Int} {m : Bool} (h : ¬ (0 ≤ n ∧ n ≤ 2147483647)) : refOf n m = 0 := by unfold refOf; rw [if_neg h]
theorem refOf_range (n : Int) (m : Bool) : 0 ≤ refOf n m ∧ refOf n m ≤ 4294967295 := by
  have := b2i_range m
  unfold refOf; split <;> omega
/-- A reference, marked. -/
def markOf (a : Int) : Int := a / 2 * 2 + 1
theorem markOf_range {a : Int} (h0 : 0 ≤ a) (h1 : a ≤ 18446744073709551615) : 0 ≤ markOf a ∧ markOf a ≤ 18446744073709551615 := by unfold markOf; omega

theorem bits_and1 (a : Int) (h0 : 0 ≤ a) (h1 : a ≤ 18446744073709551615) : bits .and .u64 a 1 = a % 2 := by
  obtain ⟨n, rfl⟩ := Int.eq_ofNat_of_zero_le h0
  have := bits_and_u64_nat n 1 (by omega) (by omega)
  rw [Nat.and_one_is_mod] at this
  rw [show ((1 : Int)) = ((1 : Nat) : Int) from rfl, this]
  omega
theorem or_bit (n b : Nat) (hb : b ≤ 1) : 2 * n ||| b = 2 * n + b := by
  rw [Nat.mul_comm, show n * 2 = n * 2 ^ 1 from rfl, ← Nat.shiftLeft_eq]
  exact (Nat.shiftLeft_add_eq_or_of_lt (by omega) n).symm
theorem or_one (n : Nat) : n ||| 1 = n / 2 * 2 + 1 := by
  apply Nat.eq_of_testBit_eq
  intro i
  have e : n / 2 * 2 + 1 = 2 * (n / 2) ||| 1 := by rw [or_bit _ 1 (by omega)]; omega
  rw [e, Nat.testBit_or, Nat.testBit_or]
  cases i with
  | zero => simp
  | succ i =>
    have e1 : Nat.testBit 1 (i + 1) = false := by simp [Nat.testBit_succ]
    rw [e1, Bool.or_false, Bool.or_false, Nat.testBit_succ, Nat.testBit_succ]
    congr 1
    omega
theorem bits_or1 (a : Int) (h0 : 0 ≤ a) (h1 : a ≤ 18446744073709551615) : bits .or .u64 a 1 = markOf a := by
  obtain ⟨n, rfl⟩ := Int.eq_ofNat_of_zero_le h0
  have := bits_or_u64_nat n 1 (by omega) (by omega)
  rw [or_one] at this
  rw [show ((1 : Int)) = ((1 : Nat) : Int) from rfl, this]
  unfold markOf
  omega
theorem bits_or_pack (n : Int) (m : Bool) (h0 : 0 ≤ n) (h1 : n ≤ 2147483647) : bits .or .u64 (n * 2) (b2i m) = refOf n m := by
  obtain ⟨k, rfl⟩ := Int.eq_ofNat_of_zero_le h0
  rw [refOf_in ⟨h0, h1⟩]
  cases m
  · have := bits_or_u64_nat (2 * k) 0 (by omega) (by omega)
    rw [or_bit _ 0 (by omega)] at this
    rw [show ((k : Int) * 2) = ((2 * k : Nat) : Int) by omega, show b2i false = ((0 : Nat) : Int) from rfl, this]
    omega
  · have := bits_or_u64_nat (2 * k) 1 (by omega) (by omega)
    rw [or_bit _ 1 (by omega)] at this
    rw [show ((k : Int) * 2) = ((2 * k : Nat) : Int) by omega, show b2i true = ((1 : Nat) : Int) from rfl, this]
    omega

set_option maxHeartbeats 400000 in
theorem index_any (a : Int) (w : World) (_h0 : 0 ≤ a) (_h1 : a ≤ 18446744073709551615) :
    Calls Tryz.prog 70 #[.int .u64 a] w fun e w' => e = .returned (.int .i64 (a / 2)) ∧ w = w' := by
  go_enter Tryz.func70, Tryz.ntmps70
  go_wp2
  go_ret
  exact ⟨rfl, rfl⟩

set_option maxHeartbeats 400000 in
theorem marked_any (a : Int) (w : World) (h0 : 0 ≤ a) (h1 : a ≤ 18446744073709551615) :
    Calls Tryz.prog 153 #[.int .u64 a] w fun e w' => e = .returned (.bool (a % 2 == 1)) ∧ w = w' := by
  go_enter Tryz.func153, Tryz.ntmps153
  go_wp2
  go_ret
  exact ⟨ret_b (by rw [bits_and1 a h0 h1]), rfl⟩

set_option maxHeartbeats 400000 in
theorem mark_any (a : Int) (w : World) (h0 : 0 ≤ a) (h1 : a ≤ 18446744073709551615) :
    Calls Tryz.prog 159 #[.int .u64 a] w fun e w' => e = .returned (.int .u64 (markOf a)) ∧ w = w' := by
  go_enter Tryz.func159, Tryz.ntmps159
  go_wp2
  go_ret
  exact ⟨ret_u (bits_or1 a h0 h1), rfl⟩

set_option maxHeartbeats 400000 in
theorem pack1_any (m : Bool) (c : Addr) (w : World) (hc : w.cell? c = some (.bool m)) :
    Calls Tryz.prog 190 #[.pointer (some c)] w fun e w' => e = .returned (.int .u64 (b2i m)) ∧ w = w' := by
  cases m
  all_goals
    go_enter Tryz.func190, Tryz.ntmps190
    go_wp2
    go_ret
    exact ⟨rfl, rfl⟩

set_option maxHeartbeats 400000 in
theorem pack_any (n : Int) (m : Bool) (w : World) :
    Calls Tryz.prog 155 #[.int .i64 n, .bool m] w fun e w' => e = .returned (.int .u64 (refOf n m)) ∧ Below w.heap.size w w' := by
  by_cases h0 : 0 ≤ n
  · by_cases h1 : n ≤ 2147483647
    · go_enter Tryz.func155, Tryz.ntmps155
      go_wp2_with (go_at_call 190; refine (pack1_any m _ _ (by go_simp)).mono ?_; rintro e w1 ⟨rfl, rfl⟩)
      go_ret
      exact ⟨ret_u (bits_or_pack n m h0 h1), ((Below.refl _ _).alloc (Nat.le_refl _) _).alloc (by simp) _⟩
    · go_enter Tryz.func155, Tryz.ntmps155
      go_wp2
      go_ret
      exact ⟨ret_u (refOf_out (by omega)).symm, (Below.refl _ _).alloc (Nat.le_refl _) _⟩
  · go_enter Tryz.func155, Tryz.ntmps155
    go_wp2
    go_ret
    exact ⟨ret_u (refOf_out (by omega)).symm, (Below.refl _ _).alloc (Nat.le_refl _) _⟩

set_option maxHeartbeats 400000 in
theorem over_any (a : Int) (w : World) :
    Calls Tryz.prog 157 #[.int .u64 a] w fun e w' => e = .returned (.bool (decide (1 < a))) ∧ w = w' := by
  go_enter Tryz.func157, Tryz.ntmps157
  go_wp2
  go_ret
  exact ⟨rfl, rfl⟩

/-- Does n lie between a and b? -/
def inB (n a b : Int) : Bool := decide (a ≤ n ∧ n ≤ b)
theorem inB_iff {n a b : Int} : inB n a b = true ↔ a ≤ n ∧ n ≤ b := by simp [inB]

set_option maxHeartbeats 400000 in
theorem within_any (n a b : Int) (w : World) :
    Calls Tryz.prog 199 #[.int .i64 n, .int .i64 a, .int .i64 b] w fun e w' => e = .returned (.bool (inB n a b)) ∧ w = w' := by
  by_cases h0 : a ≤ n
  · go_enter Tryz.func199, Tryz.ntmps199
    go_wp2
    go_ret
    exact ⟨ret_b (by simp [inB, h0]), rfl⟩
  · have h0' : decide (a ≤ n) = false := by simpa using h0
    go_enter Tryz.func199, Tryz.ntmps199
    go_wp2
    go_ret
    exact ⟨ret_b (by simp [inB]; omega), rfl⟩

end Go.Proofs.YtccmjljlfgbicaaGreat

/- Contracts of route and conf: buckets that may be, layouts that may be. -/
namespace Go.Proofs.YtccmjljlfgbicaaGreat
open Go.ChangeShapes Go.WideShapes Go.ChangeAt Go.RowKit

set_option maxRecDepth 100000 in
set_option maxHeartbeats 4000000 in
theorem len_any (x : Int) (r : Int) (w : World) (h : (x = 1 ∧ r = 1) ∨ (x = 2 ∧ r = 2) ∨ (x = 4 ∧ r = 3) ∨ (x = 8 ∧ r = 4) ∨ (x = 16 ∧ r = 5) ∨ (x = 32 ∧ r = 6) ∨ (x = 64 ∧ r = 7)) :
    Calls Tryz.prog 194 #[.int .u64 x] w fun e w' => e = .returned (.int .i64 r) ∧ w = w' := by
  rcases h with ⟨rfl, rfl⟩ | ⟨rfl, rfl⟩ | ⟨rfl, rfl⟩ | ⟨rfl, rfl⟩ | ⟨rfl, rfl⟩ | ⟨rfl, rfl⟩ | ⟨rfl, rfl⟩
  all_goals
    go_enter Tryz.func194, Tryz.ntmps194
    go_wp2
    go_ret
    exact ⟨ret_u (by decide +kernel), rfl⟩

/-- May there be so many buckets? -/
def mayB (b : Int) : Bool := b == 1 || b == 2 || b == 4 || b == 8 || b == 16 || b == 32 || b == 64

theorem mayB_cases {b : Int} (h : mayB b = true) : b = 1 ∨ b = 2 ∨ b = 4 ∨ b = 8 ∨ b = 16 ∨ b = 32 ∨ b = 64 := by
  simp [mayB] at h; omega
theorem mayB_not {b : Int} (h : mayB b = false) : (b == 1) = false ∧ (b == 2) = false ∧ (b == 4) = false ∧ (b == 8) = false ∧ (b == 16) = false ∧ (b == 32) = false ∧ (b == 64) = false := by
  simp [mayB] at h; simp; omega

set_option maxRecDepth 100000 in
set_option maxHeartbeats 4000000 in
theorem mayb_any (b : Int) (w : World) :
    Calls Tryz.prog 192 #[.int .i64 b] w fun e w' => e = .returned (.bool (mayB b)) ∧ w = w' := by
  cases hm : mayB b
  · obtain ⟨e1, e2, e3, e4, e5, e6, e7⟩ := mayB_not hm
    clear hm
    go_enter Tryz.func192, Tryz.ntmps192
    go_wp2_with (go_at_call 194; refine (len_any _ 7 _ (by simp)).mono ?_; rintro e w1 ⟨rfl, rfl⟩)
    go_rounds 8
    go_ret
    exact ⟨rfl, rfl⟩
  · have hb := mayB_cases hm
    clear hm
    rcases hb with rfl | rfl | rfl | rfl | rfl | rfl | rfl
    all_goals
      go_enter Tryz.func192, Tryz.ntmps192
      go_wp2_with (go_at_call 194; refine (len_any _ 7 _ (by simp)).mono ?_; rintro e w1 ⟨rfl, rfl⟩)
      go_rounds 8
      go_ret
      exact ⟨rfl, rfl⟩

set_option maxRecDepth 100000 in
set_option maxHeartbeats 400000 in
theorem bucket1_1 (x : Int) (c : Addr) (w : World) (h0 : 0 ≤ x) (h1 : x ≤ 18446744073709551615) (hc : w.cell? c = some (.int .i64 1)) :
    Calls Tryz.prog 193 #[.int .u64 x, .pointer (some c)] w fun e w' => e = .returned (.int .i64 (x / 18446744073709551616)) ∧ w = w' := by
  go_enter Tryz.func193, Tryz.ntmps193
  go_wp2_with (go_at_call 194; refine (len_any _ 1 _ (by simp)).mono ?_; rintro e w1 ⟨rfl, rfl⟩)
  go_ret
  exact ⟨ret_u (by omega), rfl⟩

set_option maxRecDepth 100000 in
set_option maxHeartbeats 400000 in
theorem bucket1_2 (x : Int) (c : Addr) (w : World) (h0 : 0 ≤ x) (h1 : x ≤ 18446744073709551615) (hc : w.cell? c = some (.int .i64 2)) :
    Calls Tryz.prog 193 #[.int .u64 x, .pointer (some c)] w fun e w' => e = .returned (.int .i64 (x / 9223372036854775808)) ∧ w = w' := by
  go_enter Tryz.func193, Tryz.ntmps193
  go_wp2_with (go_at_call 194; refine (len_any _ 2 _ (by simp)).mono ?_; rintro e w1 ⟨rfl, rfl⟩)
  go_ret
  exact ⟨ret_u (by omega), rfl⟩

set_option maxRecDepth 100000 in
set_option maxHeartbeats 400000 in
theorem bucket1_4 (x : Int) (c : Addr) (w : World) (h0 : 0 ≤ x) (h1 : x ≤ 18446744073709551615) (hc : w.cell? c = some (.int .i64 4)) :
    Calls Tryz.prog 193 #[.int .u64 x, .pointer (some c)] w fun e w' => e = .returned (.int .i64 (x / 4611686018427387904)) ∧ w = w' := by
  go_enter Tryz.func193, Tryz.ntmps193
  go_wp2_with (go_at_call 194; refine (len_any _ 3 _ (by simp)).mono ?_; rintro e w1 ⟨rfl, rfl⟩)
  go_ret
  exact ⟨ret_u (by omega), rfl⟩

set_option maxRecDepth 100000 in
set_option maxHeartbeats 400000 in
theorem bucket1_8 (x : Int) (c : Addr) (w : World) (h0 : 0 ≤ x) (h1 : x ≤ 18446744073709551615) (hc : w.cell? c = some (.int .i64 8)) :
    Calls Tryz.prog 193 #[.int .u64 x, .pointer (some c)] w fun e w' => e = .returned (.int .i64 (x / 2305843009213693952)) ∧ w = w' := by
  go_enter Tryz.func193, Tryz.ntmps193
  go_wp2_with (go_at_call 194; refine (len_any _ 4 _ (by simp)).mono ?_; rintro e w1 ⟨rfl, rfl⟩)
  go_ret
  exact ⟨ret_u (by omega), rfl⟩

set_option maxRecDepth 100000 in
set_option maxHeartbeats 400000 in
theorem bucket1_16 (x : Int) (c : Addr) (w : World) (h0 : 0 ≤ x) (h1 : x ≤ 18446744073709551615) (hc : w.cell? c = some (.int .i64 16)) :
    Calls Tryz.prog 193 #[.int .u64 x, .pointer (some c)] w fun e w' => e = .returned (.int .i64 (x / 1152921504606846976)) ∧ w = w' := by
  go_enter Tryz.func193, Tryz.ntmps193
  go_wp2_with (go_at_call 194; refine (len_any _ 5 _ (by simp)).mono ?_; rintro e w1 ⟨rfl, rfl⟩)
  go_ret
  exact ⟨ret_u (by omega), rfl⟩

set_option maxRecDepth 100000 in
set_option maxHeartbeats 400000 in
theorem bucket1_32 (x : Int) (c : Addr) (w : World) (h0 : 0 ≤ x) (h1 : x ≤ 18446744073709551615) (hc : w.cell? c = some (.int .i64 32)) :
    Calls Tryz.prog 193 #[.int .u64 x, .pointer (some c)] w fun e w' => e = .returned (.int .i64 (x / 576460752303423488)) ∧ w = w' := by
  go_enter Tryz.func193, Tryz.ntmps193
  go_wp2_with (go_at_call 194; refine (len_any _ 6 _ (by simp)).mono ?_; rintro e w1 ⟨rfl, rfl⟩)
  go_ret
  exact ⟨ret_u (by omega), rfl⟩

set_option maxRecDepth 100000 in
set_option maxHeartbeats 400000 in
theorem bucket1_64 (x : Int) (c : Addr) (w : World) (h0 : 0 ≤ x) (h1 : x ≤ 18446744073709551615) (hc : w.cell? c = some (.int .i64 64)) :
    Calls Tryz.prog 193 #[.int .u64 x, .pointer (some c)] w fun e w' => e = .returned (.int .i64 (x / 288230376151711744)) ∧ w = w' := by
  go_enter Tryz.func193, Tryz.ntmps193
  go_wp2_with (go_at_call 194; refine (len_any _ 7 _ (by simp)).mono ?_; rintro e w1 ⟨rfl, rfl⟩)
  go_ret
  exact ⟨ret_u (by omega), rfl⟩

/-- A key's bucket. -/
def bucketOf (key b : Int) : Int := if mayB b then key * 11400714819323198485 % 18446744073709551616 * b / 18446744073709551616 else 0

theorem mulw (key : Int) : IntKind.u64.wrap (key * 11400714819323198485) = key * 11400714819323198485 % 18446744073709551616 := by
  simp [IntKind.wrap, IntKind.bits, IntKind.signed]

theorem bucket1_any (x b : Int) (c : Addr) (w : World) (h0 : 0 ≤ x) (h1 : x ≤ 18446744073709551615) (hm : mayB b = true) (hc : w.cell? c = some (.int .i64 b)) :
    Calls Tryz.prog 193 #[.int .u64 x, .pointer (some c)] w fun e w' => e = .returned (.int .i64 (x * b / 18446744073709551616)) ∧ w = w' := by
  rcases mayB_cases hm with rfl | rfl | rfl | rfl | rfl | rfl | rfl
  · exact (bucket1_1 x c w h0 h1 hc).mono fun _ _ ⟨he, hw⟩ => ⟨he.trans (ret_u (by omega)), hw⟩
  · exact (bucket1_2 x c w h0 h1 hc).mono fun _ _ ⟨he, hw⟩ => ⟨he.trans (ret_u (by omega)), hw⟩
  · exact (bucket1_4 x c w h0 h1 hc).mono fun _ _ ⟨he, hw⟩ => ⟨he.trans (ret_u (by omega)), hw⟩
  · exact (bucket1_8 x c w h0 h1 hc).mono fun _ _ ⟨he, hw⟩ => ⟨he.trans (ret_u (by omega)), hw⟩
  · exact (bucket1_16 x c w h0 h1 hc).mono fun _ _ ⟨he, hw⟩ => ⟨he.trans (ret_u (by omega)), hw⟩
  · exact (bucket1_32 x c w h0 h1 hc).mono fun _ _ ⟨he, hw⟩ => ⟨he.trans (ret_u (by omega)), hw⟩
  · exact (bucket1_64 x c w h0 h1 hc).mono fun _ _ ⟨he, hw⟩ => ⟨he.trans (ret_u (by omega)), hw⟩

set_option maxRecDepth 100000 in
set_option maxHeartbeats 1000000 in
theorem bucket_any (key b : Int) (w : World) :
    Calls Tryz.prog 164 #[.int .u64 key, .int .i64 b] w fun e w' => e = .returned (.int .i64 (bucketOf key b)) ∧ Below w.heap.size w w' := by
  cases hm : mayB b
  · go_enter Tryz.func164, Tryz.ntmps164
    go_wp2_with (go_at_call 192; refine (mayb_any _ _).mono ?_; rintro e w1 ⟨rfl, rfl⟩)
    go_ret
    exact ⟨ret_u (by unfold bucketOf; rw [hm]; rfl), (Below.refl _ _).alloc (Nat.le_refl _) _⟩
  · have hmm := mulw key
    generalize hx : key * 11400714819323198485 % 18446744073709551616 = x at *
    have hx0 : 0 ≤ x := by omega
    have hx1 : x ≤ 18446744073709551615 := by omega
    have hf : bucketOf key b = x * b / 18446744073709551616 := by unfold bucketOf; rw [hm, hx]; rfl
    have Hx := Lib.hid hx
    have Hf := Lib.hid hf
    clear hx hf
    go_enter Tryz.func164, Tryz.ntmps164
    go_wp2_with fail
    refine (mayb_any _ _).mono ?_; rintro e w1 ⟨rfl, rfl⟩
    go_wp2_with fail
    refine (bucket1_any x b _ _ hx0 hx1 hm (by go_simp)).mono ?_; rintro e w1 ⟨rfl, rfl⟩
    go_wp2_with fail
    go_ret
    exact ⟨ret_u Hf.out.symm, (Below.refl _ _).alloc (Nat.le_refl _) _⟩

/-- A layout. -/
structure Conf where
  threads : Int
  buckets : Int
  inserts : Int
  fuel : Int
  calls : Int
deriving DecidableEq

abbrev Conf.cells (c : Conf) : Array Value := #[.int .i64 c.threads, .int .i64 c.buckets, .int .i64 c.inserts, .int .i64 c.fuel, .int .i64 c.calls]
abbrev Conf.val (c : Conf) : Value := .agg #[.int .i64 c.threads, .int .i64 c.buckets, .int .i64 c.inserts, .int .i64 c.fuel, .int .i64 c.calls]

/-- May a map be laid out so? -/
def Conf.may (c : Conf) : Bool := inB c.threads 1 8 && (mayB c.buckets && (inB c.inserts 0 256 && (inB c.fuel 0 65536 && inB c.calls 1 256)))
def Conf.ops (c : Conf) : Int := if c.may then c.threads * c.calls else 0
def Conf.nodes (c : Conf) : Int := if c.may then 1 + c.buckets + 2 * c.ops else 0

set_option maxRecDepth 100000 in
set_option maxHeartbeats 1000000 in
theorem all5 (b0 b1 b2 b3 b4 : Bool) (g : Nat) (w : World) (h0 : w.cell? ⟨g, 0, none⟩ = some (.bool b0)) (h1 : w.cell? ⟨g, 1, none⟩ = some (.bool b1)) (h2 : w.cell? ⟨g, 2, none⟩ = some (.bool b2)) (h3 : w.cell? ⟨g, 3, none⟩ = some (.bool b3)) (h4 : w.cell? ⟨g, 4, none⟩ = some (.bool b4)) :
    Calls Tryz.prog 200 #[.slice (some ⟨g, 0, none⟩) 5 5] w fun e w' => e = .returned (.bool (b0 && (b1 && (b2 && (b3 && b4))))) ∧ w = w' := by
  cases b0
  · go_enter Tryz.func200, Tryz.ntmps200
    go_wp2
    go_rounds 6
    go_ret
    exact ⟨rfl, rfl⟩
  · skip
    cases b1
    · go_enter Tryz.func200, Tryz.ntmps200
      go_wp2
      go_rounds 6
      go_ret
      exact ⟨rfl, rfl⟩
    · skip
      cases b2
      · go_enter Tryz.func200, Tryz.ntmps200
        go_wp2
        go_rounds 6
        go_ret
        exact ⟨rfl, rfl⟩
      · skip
        cases b3
        · go_enter Tryz.func200, Tryz.ntmps200
          go_wp2
          go_rounds 6
          go_ret
          exact ⟨rfl, rfl⟩
        · skip
          cases b4
          · go_enter Tryz.func200, Tryz.ntmps200
            go_wp2
            go_rounds 6
            go_ret
            exact ⟨rfl, rfl⟩
          · go_enter Tryz.func200, Tryz.ntmps200
            go_wp2
            go_rounds 6
            go_ret
            exact ⟨rfl, rfl⟩

end Go.Proofs.YtccmjljlfgbicaaGreat

/- The contract of conf.May. -/
namespace Go.Proofs.YtccmjljlfgbicaaGreat
open Go.ChangeShapes Go.WideShapes Go.ChangeAt Go.RowKit

/-- The number of an error: an argument that may not be, if something isn't so. -/
def errIf (b : Bool) : Int := if b then 1 else 0


set_option maxRecDepth 100000 in
set_option maxHeartbeats 1000000 in
theorem may_any (c : Conf) (w : World) :
    Calls Tryz.prog 181 #[c.val] w fun e w' => e = .returned (.int .i64 (errIf (!c.may))) ∧ Below w.heap.size w w' := by
  unfold Conf.val
  have hM : c.may = (inB c.threads 1 8 && (mayB c.buckets && (inB c.inserts 0 256 && (inB c.fuel 0 65536 && inB c.calls 1 256)))) := rfl
  have HM := Lib.hid hM
  clear hM
  go_enter Tryz.func181, Tryz.ntmps181
  go_wp2
  go_region_held3 (fun w' => w'.cell? ⟨w.heap.size, 0, none⟩ = some (.int .i64 c.threads) ∧ w'.cell? ⟨w.heap.size, 1, none⟩ = some (.int .i64 c.buckets) ∧ w'.cell? ⟨w.heap.size, 2, none⟩ = some (.int .i64 c.inserts) ∧ w'.cell? ⟨w.heap.size, 3, none⟩ = some (.int .i64 c.fuel) ∧ w'.cell? ⟨w.heap.size, 4, none⟩ = some (.int .i64 c.calls)) (go_keep) ((first | (go_at_call 199; refine (within_any _ _ _ _).mono ?_; rintro e w1 ⟨rfl, rfl⟩) | (go_at_call 192; refine (mayb_any _ _).mono ?_; rintro e w1 ⟨rfl, rfl⟩)))
  all_goals
    go_wp2_with fail
    refine (all5 (inB c.threads 1 8) (mayB c.buckets) (inB c.inserts 0 256) (inB c.fuel 0 65536) (inB c.calls 1 256) _ _ (by go_simp) (by go_simp) (by go_simp) (by go_simp) (by go_simp)).mono ?_
    rintro e w1 ⟨rfl, rfl⟩
    rw [← HM.out]
    cases hc : c.may
    all_goals
      go_wp2_with fail
      go_ret
      exact ⟨ret_u (by rw [hc]; rfl), (((Below.refl _ _).alloc (Nat.le_refl _) _).alloc (by simp) _).drew⟩

/-- A fact of one step: a region's world holds the five cells of a layout at a block. -/
def ConfAt (w : World) (b : Nat) (c : Conf) : Prop :=
  w.cell? ⟨b, 0, none⟩ = some (.int .i64 c.threads) ∧ w.cell? ⟨b, 1, none⟩ = some (.int .i64 c.buckets) ∧ w.cell? ⟨b, 2, none⟩ = some (.int .i64 c.inserts) ∧ w.cell? ⟨b, 3, none⟩ = some (.int .i64 c.fuel) ∧ w.cell? ⟨b, 4, none⟩ = some (.int .i64 c.calls)

theorem may_bounds {c : Conf} (h : c.may = true) : 1 ≤ c.threads ∧ c.threads ≤ 8 ∧ 1 ≤ c.buckets ∧ c.buckets ≤ 64 ∧ 0 ≤ c.inserts ∧ c.inserts ≤ 256 ∧ 0 ≤ c.fuel ∧ c.fuel ≤ 65536 ∧ 1 ≤ c.calls ∧ c.calls ≤ 256 := by
  simp only [Conf.may, Bool.and_eq_true, inB_iff] at h
  have hb := mayB_cases h.2.1
  omega

theorem ops_in {c : Conf} (h : c.may = true) : c.ops = c.threads * c.calls := by unfold Conf.ops; rw [h]; rfl
theorem nodes_in {c : Conf} (h : c.may = true) : c.nodes = 1 + c.buckets + 2 * c.ops := by unfold Conf.nodes; rw [h]; rfl
theorem ops_out {c : Conf} (h : c.may = false) : c.ops = 0 := by unfold Conf.ops; rw [h]; rfl
theorem nodes_out {c : Conf} (h : c.may = false) : c.nodes = 0 := by unfold Conf.nodes; rw [h]; rfl
theorem mul_bounds {a b : Int} (h0 : 1 ≤ a) (h1 : a ≤ 8) (h2 : 1 ≤ b) (h3 : b ≤ 256) : 1 ≤ a * b ∧ a * b ≤ 2048 := by
  have l : 1 * 1 ≤ a * b := Int.mul_le_mul h0 h2 (by omega) (by omega)
  have u : a * b ≤ 8 * 256 := Int.mul_le_mul h1 h3 (by omega) (by omega)
  omega
theorem ops_bounds (c : Conf) : 0 ≤ c.ops ∧ c.ops ≤ 2048 := by
  cases h : c.may
  · rw [ops_out h]; omega
  · rw [ops_in h]
    obtain ⟨a1, a2, _, _, _, _, _, _, a3, a4⟩ := may_bounds h
    have := mul_bounds a1 a2 a3 a4
    omega


theorem confAt_new {w w1 : World} {c : Conf} (hb : Below (w.alloc (.cells c.cells 35)).heap.size (w.alloc (.cells c.cells 35)) w1) : ConfAt w1 w.heap.size c := by
  refine ⟨?_, ?_, ?_, ?_, ?_⟩ <;> (rw [hb.cell (by simp)]; go_simp)
theorem ConfAt.below {w w1 : World} {b : Nat} {c : Conf} {B : Nat} (h : ConfAt w b c) (hb : Below B w w1) (hB : b < B) : ConfAt w1 b c := by
  obtain ⟨h0, h1, h2, h3, h4⟩ := h
  refine ⟨?_, ?_, ?_, ?_, ?_⟩ <;> (rw [hb.cell hB]; assumption)
theorem below_new {w w1 : World} {cs : Array Value} {t : TypeId} (hb : Below (w.alloc (.cells cs t)).heap.size (w.alloc (.cells cs t)) w1) : Below w.heap.size w w1 :=
  ((Below.refl _ _).alloc (Nat.le_refl _) _).trans (hb.mono (by simp))

theorem may_no {c : Conf} (w : World) (hm : c.may = false) :
    Calls Tryz.prog 181 #[c.val] w fun e w' => e = .returned (.int .i64 1) ∧ Below w.heap.size w w' :=
  (may_any c w).mono fun _ _ ⟨he, hb⟩ => ⟨he.trans (ret_u (by rw [hm]; rfl)), hb⟩
theorem may_yes {c : Conf} (w : World) (hm : c.may = true) :
    Calls Tryz.prog 181 #[c.val] w fun e w' => e = .returned (.int .i64 0) ∧ Below w.heap.size w w' :=
  (may_any c w).mono fun _ _ ⟨he, hb⟩ => ⟨he.trans (ret_u (by rw [hm]; rfl)), hb⟩

set_option maxHeartbeats 1000000 in
theorem cops_any (c : Conf) (w : World) :
    Calls Tryz.prog 170 #[c.val] w fun e w' => e = .returned (.int .i64 c.ops) ∧ Below w.heap.size w w' := by
  cases hm : c.may
  · have HO := Lib.hid (ops_out hm)
    have HM := Lib.hid hm
    clear hm
    go_enter Tryz.func170, Tryz.ntmps170
    go_wp2_with (go_at_call 181; refine (may_no (c := c) _ HM.out).mono ?_; rintro e w1 ⟨rfl, hb⟩)
    go_ret
    exact ⟨ret_u HO.out.symm, below_new hb⟩
  · have HO := Lib.hid (ops_in hm)
    obtain ⟨a1, a2, _, _, _, _, _, _, a3, a4⟩ := may_bounds hm
    have hmb := mul_bounds a1 a2 a3 a4
    have HM := Lib.hid hm
    clear hm
    go_enter Tryz.func170, Tryz.ntmps170
    go_wp2_with (go_at_call 181; refine (may_yes (c := c) _ HM.out).mono ?_; rintro e w1 ⟨rfl, hb⟩; obtain ⟨g0, g1, g2, g3, g4⟩ := confAt_new hb)
    go_ret
    exact ⟨ret_u HO.out.symm, below_new hb⟩

set_option maxHeartbeats 1000000 in
theorem cnodes_any (c : Conf) (w : World) :
    Calls Tryz.prog 167 #[c.val] w fun e w' => e = .returned (.int .i64 c.nodes) ∧ Below w.heap.size w w' := by
  cases hm : c.may
  · have HO := Lib.hid (nodes_out hm)
    have HM := Lib.hid hm
    clear hm
    go_enter Tryz.func167, Tryz.ntmps167
    go_wp2_with (go_at_call 181; refine (may_no (c := c) _ HM.out).mono ?_; rintro e w1 ⟨rfl, hb⟩)
    go_ret
    exact ⟨ret_u HO.out.symm, below_new hb⟩
  · have HO := Lib.hid (nodes_in hm)
    obtain ⟨a1, a2, b1, b2, _, _, _, _, a3, a4⟩ := may_bounds hm
    have hmb := ops_bounds c
    have HM := Lib.hid hm
    clear hm
    go_enter Tryz.func167, Tryz.ntmps167
    go_wp2_with (go_at_call 181; refine (may_yes (c := c) _ HM.out).mono ?_; rintro e w1 ⟨rfl, hb⟩; obtain ⟨g0, g1, g2, g3, g4⟩ := confAt_new hb)
    have hz := hb.size
    simp at hz
    have e1 : IntKind.i64.wrap (1 + c.buckets) = 1 + c.buckets := IntWalk.i64_in _ (by omega)
    have e2 : IntKind.i64.wrap (2 * c.ops) = 2 * c.ops := IntWalk.i64_in _ (by omega)
    have e3 : IntKind.i64.wrap (1 + c.buckets + 2 * c.ops) = 1 + c.buckets + 2 * c.ops := IntWalk.i64_in _ (by omega)
    go_region_held3 (fun w' => w'.cell? ⟨w.heap.size, 0, none⟩ = some (.int .i64 c.threads) ∧ w'.cell? ⟨w.heap.size, 1, none⟩ = some (.int .i64 c.buckets) ∧ w'.cell? ⟨w.heap.size, 2, none⟩ = some (.int .i64 c.inserts) ∧ w'.cell? ⟨w.heap.size, 3, none⟩ = some (.int .i64 c.fuel) ∧ w'.cell? ⟨w.heap.size, 4, none⟩ = some (.int .i64 c.calls)) (first | go_keep | (go_split_ands; refine ⟨?_, ?_, ?_, ?_, ?_⟩ <;> (rw [hb2.cell (by simp; omega)]; assumption))) ((go_at_call 170; refine (cops_any c _).mono ?_; rintro e w2 ⟨rfl, hb2⟩))
    all_goals
      go_wp2
      go_ret
      exact ⟨ret_u HO.out.symm, (below_new hb).drew.trans (hb2.mono (by simp; omega))⟩

end Go.Proofs.YtccmjljlfgbicaaGreat

