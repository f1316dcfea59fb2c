/- Contracts of route and conf: buckets that may be, layouts that may be. -/
import Derived.Test.YtccmjljlfgbicaaGreatLow
import Derived.Handy
namespace Go.Proofs.YtccmjljlfgbicaaGreat
open Go.ChangeShapes Go.WideShapes Go.ChangeAt Go.RowKit

set_option maxRecDepth 100000 in
set_option maxHeartbeats 4000000 in
theorem len_any (x : Int) (r : Int) (w : World) (h : (x = 1 ∧ r = 1) ∨ (x = 2 ∧ r = 2) ∨ (x = 4 ∧ r = 3) ∨ (x = 8 ∧ r = 4) ∨ (x = 16 ∧ r = 5) ∨ (x = 32 ∧ r = 6) ∨ (x = 64 ∧ r = 7)) :
    Calls Tryz.prog 194 #[.int .u64 x] w fun e w' => e = .returned (.int .i64 r) ∧ w = w' := by
  rcases h with ⟨rfl, rfl⟩ | ⟨rfl, rfl⟩ | ⟨rfl, rfl⟩ | ⟨rfl, rfl⟩ | ⟨rfl, rfl⟩ | ⟨rfl, rfl⟩ | ⟨rfl, rfl⟩
  all_goals
    go_enter Tryz.func194, Tryz.ntmps194
    go_wp2
    go_ret
    exact ⟨ret_u (by decide +kernel), rfl⟩

/-- May there be so many buckets? -/
def mayB (b : Int) : Bool := b == 1 || b == 2 || b == 4 || b == 8 || b == 16 || b == 32 || b == 64

theorem mayB_cases {b : Int} (h : mayB b = true) : b = 1 ∨ b = 2 ∨ b = 4 ∨ b = 8 ∨ b = 16 ∨ b = 32 ∨ b = 64 := by
  simp [mayB] at h; omega
theorem mayB_not {b : Int} (h : mayB b = false) : (b == 1) = false ∧ (b == 2) = false ∧ (b == 4) = false ∧ (b == 8) = false ∧ (b == 16) = false ∧ (b == 32) = false ∧ (b == 64) = false := by
  simp [mayB] at h; simp; omega

set_option maxRecDepth 100000 in
set_option maxHeartbeats 4000000 in
theorem mayb_any (b : Int) (w : World) :
    Calls Tryz.prog 192 #[.int .i64 b] w fun e w' => e = .returned (.bool (mayB b)) ∧ w = w' := by
  cases hm : mayB b
  · obtain ⟨e1, e2, e3, e4, e5, e6, e7⟩ := mayB_not hm
    clear hm
    go_enter Tryz.func192, Tryz.ntmps192
    go_wp2_with (go_at_call 194; refine (len_any _ 7 _ (by simp)).mono ?_; rintro e w1 ⟨rfl, rfl⟩)
    go_rounds 8
    go_ret
    exact ⟨rfl, rfl⟩
  · have hb := mayB_cases hm
    clear hm
    rcases hb with rfl | rfl | rfl | rfl | rfl | rfl | rfl
    all_goals
      go_enter Tryz.func192, Tryz.ntmps192
      go_wp2_with (go_at_call 194; refine (len_any _ 7 _ (by simp)).mono ?_; rintro e w1 ⟨rfl, rfl⟩)
      go_rounds 8
      go_ret
      exact ⟨rfl, rfl⟩

set_option maxRecDepth 100000 in
set_option maxHeartbeats 400000 in
theorem bucket1_1 (x : Int) (c : Addr) (w : World) (h0 : 0 ≤ x) (h1 : x ≤ 18446744073709551615) (hc : w.cell? c = some (.int .i64 1)) :
    Calls Tryz.prog 193 #[.int .u64 x, .pointer (some c)] w fun e w' => e = .returned (.int .i64 (x / 18446744073709551616)) ∧ w = w' := by
  go_enter Tryz.func193, Tryz.ntmps193
  go_wp2_with (go_at_call 194; refine (len_any _ 1 _ (by simp)).mono ?_; rintro e w1 ⟨rfl, rfl⟩)
  go_ret
  exact ⟨ret_u (by omega), rfl⟩

set_option maxRecDepth 100000 in
set_option maxHeartbeats 400000 in
theorem bucket1_2 (x : Int) (c : Addr) (w : World) (h0 : 0 ≤ x) (h1 : x ≤ 18446744073709551615) (hc : w.cell? c = some (.int .i64 2)) :
    Calls Tryz.prog 193 #[.int .u64 x, .pointer (some c)] w fun e w' => e = .returned (.int .i64 (x / 9223372036854775808)) ∧ w = w' := by
  go_enter Tryz.func193, Tryz.ntmps193
  go_wp2_with (go_at_call 194; refine (len_any _ 2 _ (by simp)).mono ?_; rintro e w1 ⟨rfl, rfl⟩)
  go_ret
  exact ⟨ret_u (by omega), rfl⟩

set_option maxRecDepth 100000 in
set_option maxHeartbeats 400000 in
theorem bucket1_4 (x : Int) (c : Addr) (w : World) (h0 : 0 ≤ x) (h1 : x ≤ 18446744073709551615) (hc : w.cell? c = some (.int .i64 4)) :
    Calls Tryz.prog 193 #[.int .u64 x, .pointer (some c)] w fun e w' => e = .returned (.int .i64 (x / 4611686018427387904)) ∧ w = w' := by
  go_enter Tryz.func193, Tryz.ntmps193
  go_wp2_with (go_at_call 194; refine (len_any _ 3 _ (by simp)).mono ?_; rintro e w1 ⟨rfl, rfl⟩)
  go_ret
  exact ⟨ret_u (by omega), rfl⟩

set_option maxRecDepth 100000 in
set_option maxHeartbeats 400000 in
theorem bucket1_8 (x : Int) (c : Addr) (w : World) (h0 : 0 ≤ x) (h1 : x ≤ 18446744073709551615) (hc : w.cell? c = some (.int .i64 8)) :
    Calls Tryz.prog 193 #[.int .u64 x, .pointer (some c)] w fun e w' => e = .returned (.int .i64 (x / 2305843009213693952)) ∧ w = w' := by
  go_enter Tryz.func193, Tryz.ntmps193
  go_wp2_with (go_at_call 194; refine (len_any _ 4 _ (by simp)).mono ?_; rintro e w1 ⟨rfl, rfl⟩)
  go_ret
  exact ⟨ret_u (by omega), rfl⟩

set_option maxRecDepth 100000 in
set_option maxHeartbeats 400000 in
theorem bucket1_16 (x : Int) (c : Addr) (w : World) (h0 : 0 ≤ x) (h1 : x ≤ 18446744073709551615) (hc : w.cell? c = some (.int .i64 16)) :
    Calls Tryz.prog 193 #[.int .u64 x, .pointer (some c)] w fun e w' => e = .returned (.int .i64 (x / 1152921504606846976)) ∧ w = w' := by
  go_enter Tryz.func193, Tryz.ntmps193
  go_wp2_with (go_at_call 194; refine (len_any _ 5 _ (by simp)).mono ?_; rintro e w1 ⟨rfl, rfl⟩)
  go_ret
  exact ⟨ret_u (by omega), rfl⟩

set_option maxRecDepth 100000 in
set_option maxHeartbeats 400000 in
theorem bucket1_32 (x : Int) (c : Addr) (w : World) (h0 : 0 ≤ x) (h1 : x ≤ 18446744073709551615) (hc : w.cell? c = some (.int .i64 32)) :
    Calls Tryz.prog 193 #[.int .u64 x, .pointer (some c)] w fun e w' => e = .returned (.int .i64 (x / 576460752303423488)) ∧ w = w' := by
  go_enter Tryz.func193, Tryz.ntmps193
  go_wp2_with (go_at_call 194; refine (len_any _ 6 _ (by simp)).mono ?_; rintro e w1 ⟨rfl, rfl⟩)
  go_ret
  exact ⟨ret_u (by omega), rfl⟩

set_option maxRecDepth 100000 in
set_option maxHeartbeats 400000 in
theorem bucket1_64 (x : Int) (c : Addr) (w : World) (h0 : 0 ≤ x) (h1 : x ≤ 18446744073709551615) (hc : w.cell? c = some (.int .i64 64)) :
    Calls Tryz.prog 193 #[.int .u64 x, .pointer (some c)] w fun e w' => e = .returned (.int .i64 (x / 288230376151711744)) ∧ w = w' := by
  go_enter Tryz.func193, Tryz.ntmps193
  go_wp2_with (go_at_call 194; refine (len_any _ 7 _ (by simp)).mono ?_; rintro e w1 ⟨rfl, rfl⟩)
  go_ret
  exact ⟨ret_u (by omega), rfl⟩

/-- A key's bucket. -/
def bucketOf (key b : Int) : Int := if mayB b then key * 11400714819323198485 % 18446744073709551616 * b / 18446744073709551616 else 0

theorem mulw (key : Int) : IntKind.u64.wrap (key * 11400714819323198485) = key * 11400714819323198485 % 18446744073709551616 := by
  simp [IntKind.wrap, IntKind.bits, IntKind.signed]

theorem bucket1_any (x b : Int) (c : Addr) (w : World) (h0 : 0 ≤ x) (h1 : x ≤ 18446744073709551615) (hm : mayB b = true) (hc : w.cell? c = some (.int .i64 b)) :
    Calls Tryz.prog 193 #[.int .u64 x, .pointer (some c)] w fun e w' => e = .returned (.int .i64 (x * b / 18446744073709551616)) ∧ w = w' := by
  rcases mayB_cases hm with rfl | rfl | rfl | rfl | rfl | rfl | rfl
  · exact (bucket1_1 x c w h0 h1 hc).mono fun _ _ ⟨he, hw⟩ => ⟨he.trans (ret_u (by omega)), hw⟩
  · exact (bucket1_2 x c w h0 h1 hc).mono fun _ _ ⟨he, hw⟩ => ⟨he.trans (ret_u (by omega)), hw⟩
  · exact (bucket1_4 x c w h0 h1 hc).mono fun _ _ ⟨he, hw⟩ => ⟨he.trans (ret_u (by omega)), hw⟩
  · exact (bucket1_8 x c w h0 h1 hc).mono fun _ _ ⟨he, hw⟩ => ⟨he.trans (ret_u (by omega)), hw⟩
  · exact (bucket1_16 x c w h0 h1 hc).mono fun _ _ ⟨he, hw⟩ => ⟨he.trans (ret_u (by omega)), hw⟩
  · exact (bucket1_32 x c w h0 h1 hc).mono fun _ _ ⟨he, hw⟩ => ⟨he.trans (ret_u (by omega)), hw⟩
  · exact (bucket1_64 x c w h0 h1 hc).mono fun _ _ ⟨he, hw⟩ => ⟨he.trans (ret_u (by omega)), hw⟩

set_option maxRecDepth 100000 in
set_option maxHeartbeats 1000000 in
theorem bucket_any (key b : Int) (w : World) :
    Calls Tryz.prog 164 #[.int .u64 key, .int .i64 b] w fun e w' => e = .returned (.int .i64 (bucketOf key b)) ∧ Below w.heap.size w w' := by
  cases hm : mayB b
  · go_enter Tryz.func164, Tryz.ntmps164
    go_wp2_with (go_at_call 192; refine (mayb_any _ _).mono ?_; rintro e w1 ⟨rfl, rfl⟩)
    go_ret
    exact ⟨ret_u (by unfold bucketOf; rw [hm]; rfl), (Below.refl _ _).alloc (Nat.le_refl _) _⟩
  · have hmm := mulw key
    generalize hx : key * 11400714819323198485 % 18446744073709551616 = x at *
    have hx0 : 0 ≤ x := by omega
    have hx1 : x ≤ 18446744073709551615 := by omega
    have hf : bucketOf key b = x * b / 18446744073709551616 := by unfold bucketOf; rw [hm, hx]; rfl
    have Hx := Lib.hid hx
    have Hf := Lib.hid hf
    clear hx hf
    go_enter Tryz.func164, Tryz.ntmps164
    go_wp2_with fail
    refine (mayb_any _ _).mono ?_; rintro e w1 ⟨rfl, rfl⟩
    go_wp2_with fail
    refine (bucket1_any x b _ _ hx0 hx1 hm (by go_simp)).mono ?_; rintro e w1 ⟨rfl, rfl⟩
    go_wp2_with fail
    go_ret
    exact ⟨ret_u Hf.out.symm, (Below.refl _ _).alloc (Nat.le_refl _) _⟩

/-- A layout. -/
structure Conf where
  threads : Int
  buckets : Int
  inserts : Int
  fuel : Int
  calls : Int
deriving DecidableEq

abbrev Conf.cells (c : Conf) : Array Value := #[.int .i64 c.threads, .int .i64 c.buckets, .int .i64 c.inserts, .int .i64 c.fuel, .int .i64 c.calls]
abbrev Conf.val (c : Conf) : Value := .agg #[.int .i64 c.threads, .int .i64 c.buckets, .int .i64 c.inserts, .int .i64 c.fuel, .int .i64 c.calls]

/-- May a map be laid out so? -/
def Conf.may (c : Conf) : Bool := inB c.threads 1 8 && (mayB c.buckets && (inB c.inserts 0 256 && (inB c.fuel 0 65536 && inB c.calls 1 256)))
def Conf.ops (c : Conf) : Int := if c.may then c.threads * c.calls else 0
def Conf.nodes (c : Conf) : Int := if c.may then 1 + c.buckets + 2 * c.ops else 0

set_option maxRecDepth 100000 in
set_option maxHeartbeats 1000000 in
theorem all5 (b0 b1 b2 b3 b4 : Bool) (g : Nat) (w : World) (h0 : w.cell? ⟨g, 0, none⟩ = some (.bool b0)) (h1 : w.cell? ⟨g, 1, none⟩ = some (.bool b1)) (h2 : w.cell? ⟨g, 2, none⟩ = some (.bool b2)) (h3 : w.cell? ⟨g, 3, none⟩ = some (.bool b3)) (h4 : w.cell? ⟨g, 4, none⟩ = some (.bool b4)) :
    Calls Tryz.prog 200 #[.slice (some ⟨g, 0, none⟩) 5 5] w fun e w' => e = .returned (.bool (b0 && (b1 && (b2 && (b3 && b4))))) ∧ w = w' := by
  cases b0
  · go_enter Tryz.func200, Tryz.ntmps200
    go_wp2
    go_rounds 6
    go_ret
    exact ⟨rfl, rfl⟩
  · skip
    cases b1
    · go_enter Tryz.func200, Tryz.ntmps200
      go_wp2
      go_rounds 6
      go_ret
      exact ⟨rfl, rfl⟩
    · skip
      cases b2
      · go_enter Tryz.func200, Tryz.ntmps200
        go_wp2
        go_rounds 6
        go_ret
        exact ⟨rfl, rfl⟩
      · skip
        cases b3
        · go_enter Tryz.func200, Tryz.ntmps200
          go_wp2
          go_rounds 6
          go_ret
          exact ⟨rfl, rfl⟩
        · skip
          cases b4
          · go_enter Tryz.func200, Tryz.ntmps200
            go_wp2
            go_rounds 6
            go_ret
            exact ⟨rfl, rfl⟩
          · go_enter Tryz.func200, Tryz.ntmps200
            go_wp2
            go_rounds 6
            go_ret
            exact ⟨rfl, rfl⟩

end Go.Proofs.YtccmjljlfgbicaaGreat
