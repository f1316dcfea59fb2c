/- The contract of a walk's judging. -/
import Derived.Test.YtccmjljlfgbicaaGreatWalkC
namespace Go.Proofs.YtccmjljlfgbicaaGreat
open Go.ChangeShapes Go.WideShapes Go.ChangeAt Go.RowKit

theorem key_load {k : Blks} {s : St} {p : Int} (n : Int) (w : World) (h : Holds k (s.load p) w) :
    Calls Tryz.prog 36 #[.pointer (some ⟨k.bb, 0, none⟩), .int .i64 n] w fun e w' => e = .returned (.int .u64 (s.key n)) ∧ Below w.heap.size w w' := key_any (s := s.load p) n w h
theorem wop_load {k : Blks} {s : St} {p : Int} (x : Walk) (b : Nat) (w : World) (h : Holds k (s.load p) w) (hx : At w b 74 x.cells) :
    Calls Tryz.prog 156 #[.pointer (some ⟨b, 0, none⟩), .pointer (some ⟨k.bw, 0, none⟩)] w fun e w' => e = .returned (.int .i64 (s.carried x.curr)) ∧ Below w.heap.size w w' := wop_any (s := s.load p) x b w h hx

set_option maxRecDepth 100000 in
set_option maxHeartbeats 2000000 in
theorem wjudge_over {k : Blks} {s : St} (x : Walk) (b : Nat) (w : World) (h : Holds k s w) (hb : Out k b) (hx : At w b 74 x.cells) (hn : 0 ≤ x.next ∧ x.next ≤ 18446744073709551615) (hv : 1 < s.peek (s.wordAt (s.carried x.curr))) :
    Calls Tryz.prog 85 #[.pointer (some ⟨b, 0, none⟩), .pointer (some ⟨k.bw, 0, none⟩)] w fun e w' => e = .returned (.tuple #[]) ∧ Holds k (s.load (s.wordAt (s.carried x.curr))) w' ∧ At w' b 74 ({ x with phase := 4 } : Walk).cells ∧ Only (OwnX k b) w w' := by
  obtain ⟨⟨x0, x1, x2, x3, x4, x5, x6, x7, x8, x9⟩, xf, xl⟩ := walk_facts hx
  clear xf
  go_enter Tryz.func85, Tryz.ntmps85
  go_wp2_with fail
  refine (wop_any x b _ h hx).mono ?_; rintro e w1 ⟨rfl, hb1⟩
  go_wp2_with fail
  refine (wword_any _ _ (h.below hb1)).mono ?_; rintro e w2 ⟨rfl, H2, hO2⟩
  have A2 := (hx.below' hb1).only hO2 hb.1
  have O2 : Only (OwnX k b) w w2 := (Only.ofBelow _ hb1).trans (onlyX hO2)
  obtain ⟨⟨y0, y1, y2, y3, y4, y5, y6, y7, y8, y9⟩, _, yl⟩ := walk_facts A2
  obtain ⟨_, g5, g6, gl⟩ := H2.wfacts
  go_wp2_with fail
  go_region_held3 (fun w' => w'.cell? ⟨k.bw, 6, none⟩ = some (.pointer (some ⟨k.bb, 0, none⟩)) ∧ w'.cell? ⟨b, 4, none⟩ = some (.int .i64 x.curr) ∧ w'.cell? ⟨b, 0, none⟩ = some (.int .u64 x.key))
    (first
      | go_keep
      | (go_split_ands; refine ⟨?_, ?_, ?_⟩ <;> (rw [hb3.cell (by first | exact gl | exact yl)]; assumption)))
    ((go_at_call 36; refine (key_load x.curr _ H2.drew).mono ?_; rintro e w3 ⟨rfl, hb3⟩))
  all_goals
    have H3 := H2.drew.below hb3
    have A3 := A2.drew.below' hb3
    have O3 : Only (OwnX k b) w w3 := O2.drew.thenBelow hb3
    obtain ⟨⟨z0, z1, z2, z3, z4, z5, z6, z7, z8, z9⟩, zf, zl⟩ := walk_facts A3
    obtain ⟨_, i5, i6, il⟩ := H3.wfacts
    clear x0 x1 x2 x3 x4 x5 x6 x7 x8 x9 y0 y1 y2 y3 y4 y5 y6 y7 y8 y9 g5 g6 gl yl
    have f2 := zf 2
    clear zf
    go_wp2_with (go_at_call 157; refine (over_any _ _).mono ?_; rintro e w4 ⟨rfl, rfl⟩)
    go_end0
    exact ⟨rfl, H3.far hb 2 _, (A3.set 2 (.int .i64 4) : At _ _ _ (Walk.cells { x with phase := 4 })), O3.trans (setX k b 2 _ _)⟩

set_option maxRecDepth 100000 in
set_option maxHeartbeats 2000000 in
theorem wjudge_other {k : Blks} {s : St} (x : Walk) (b : Nat) (w : World) (h : Holds k s w) (hb : Out k b) (hx : At w b 74 x.cells) (hn : 0 ≤ x.next ∧ x.next ≤ 18446744073709551615) (hv : ¬ 1 < s.peek (s.wordAt (s.carried x.curr))) (hk : (s.key x.curr == x.key) = false) :
    Calls Tryz.prog 85 #[.pointer (some ⟨b, 0, none⟩), .pointer (some ⟨k.bw, 0, none⟩)] w fun e w' => e = .returned (.tuple #[]) ∧ Holds k (s.load (s.wordAt (s.carried x.curr))) w' ∧ At w' b 74 (s.advance x : Walk).cells ∧ Only (OwnX k b) w w' := by
  obtain ⟨⟨x0, x1, x2, x3, x4, x5, x6, x7, x8, x9⟩, xf, xl⟩ := walk_facts hx
  clear xf
  go_enter Tryz.func85, Tryz.ntmps85
  go_wp2_with fail
  refine (wop_any x b _ h hx).mono ?_; rintro e w1 ⟨rfl, hb1⟩
  go_wp2_with fail
  refine (wword_any _ _ (h.below hb1)).mono ?_; rintro e w2 ⟨rfl, H2, hO2⟩
  have A2 := (hx.below' hb1).only hO2 hb.1
  have O2 : Only (OwnX k b) w w2 := (Only.ofBelow _ hb1).trans (onlyX hO2)
  obtain ⟨⟨y0, y1, y2, y3, y4, y5, y6, y7, y8, y9⟩, _, yl⟩ := walk_facts A2
  obtain ⟨_, g5, g6, gl⟩ := H2.wfacts
  go_wp2_with fail
  go_region_held3 (fun w' => w'.cell? ⟨k.bw, 6, none⟩ = some (.pointer (some ⟨k.bb, 0, none⟩)) ∧ w'.cell? ⟨b, 4, none⟩ = some (.int .i64 x.curr) ∧ w'.cell? ⟨b, 0, none⟩ = some (.int .u64 x.key))
    (first
      | go_keep
      | (go_split_ands; refine ⟨?_, ?_, ?_⟩ <;> (rw [hb3.cell (by first | exact gl | exact yl)]; assumption)))
    ((go_at_call 36; refine (key_load x.curr _ H2.drew).mono ?_; rintro e w3 ⟨rfl, hb3⟩))
  all_goals
    have H3 := H2.drew.below hb3
    have A3 := A2.drew.below' hb3
    have O3 : Only (OwnX k b) w w3 := O2.drew.thenBelow hb3
    obtain ⟨⟨z0, z1, z2, z3, z4, z5, z6, z7, z8, z9⟩, zf, zl⟩ := walk_facts A3
    obtain ⟨_, i5, i6, il⟩ := H3.wfacts
    clear x0 x1 x2 x3 x4 x5 x6 x7 x8 x9 y0 y1 y2 y3 y4 y5 y6 y7 y8 y9 g5 g6 gl yl
    clear zf
    go_wp2_with (go_at_call 157; refine (over_any _ _).mono ?_; rintro e w4 ⟨rfl, rfl⟩)
    refine (advance_any x b _ H3 hb A3 hn).mono ?_; rintro e w5 ⟨rfl, H5, A5, O5⟩
    go_wp2_with fail
    go_end0
    exact ⟨rfl, H5, A5, O3.trans O5⟩

set_option maxRecDepth 100000 in
set_option maxHeartbeats 2000000 in
theorem wjudge_seek1 {k : Blks} {s : St} (x : Walk) (b : Nat) (w : World) (h : Holds k s w) (hb : Out k b) (hx : At w b 74 x.cells) (hn : 0 ≤ x.next ∧ x.next ≤ 18446744073709551615) (hv : ¬ 1 < s.peek (s.wordAt (s.carried x.curr))) (hv1 : (s.peek (s.wordAt (s.carried x.curr)) == 1) = true) (hk : (s.key x.curr == x.key) = true) (hm : (x.mode == 2) = true) :
    Calls Tryz.prog 85 #[.pointer (some ⟨b, 0, none⟩), .pointer (some ⟨k.bw, 0, none⟩)] w fun e w' => e = .returned (.tuple #[]) ∧ Holds k (s.load (s.wordAt (s.carried x.curr))) w' ∧ At w' b 74 ({ x with done := true, stop := true, found := s.carried x.curr } : Walk).cells ∧ Only (OwnX k b) w w' := by
  obtain ⟨⟨x0, x1, x2, x3, x4, x5, x6, x7, x8, x9⟩, xf, xl⟩ := walk_facts hx
  clear xf
  go_enter Tryz.func85, Tryz.ntmps85
  go_wp2_with fail
  refine (wop_any x b _ h hx).mono ?_; rintro e w1 ⟨rfl, hb1⟩
  go_wp2_with fail
  refine (wword_any _ _ (h.below hb1)).mono ?_; rintro e w2 ⟨rfl, H2, hO2⟩
  have A2 := (hx.below' hb1).only hO2 hb.1
  have O2 : Only (OwnX k b) w w2 := (Only.ofBelow _ hb1).trans (onlyX hO2)
  obtain ⟨⟨y0, y1, y2, y3, y4, y5, y6, y7, y8, y9⟩, _, yl⟩ := walk_facts A2
  obtain ⟨_, g5, g6, gl⟩ := H2.wfacts
  go_wp2_with fail
  go_region_held3 (fun w' => w'.cell? ⟨k.bw, 6, none⟩ = some (.pointer (some ⟨k.bb, 0, none⟩)) ∧ w'.cell? ⟨b, 4, none⟩ = some (.int .i64 x.curr) ∧ w'.cell? ⟨b, 0, none⟩ = some (.int .u64 x.key))
    (first
      | go_keep
      | (go_split_ands; refine ⟨?_, ?_, ?_⟩ <;> (rw [hb3.cell (by first | exact gl | exact yl)]; assumption)))
    ((go_at_call 36; refine (key_load x.curr _ H2.drew).mono ?_; rintro e w3 ⟨rfl, hb3⟩))
  all_goals
    have H3 := H2.drew.below hb3
    have A3 := A2.drew.below' hb3
    have O3 : Only (OwnX k b) w w3 := O2.drew.thenBelow hb3
    obtain ⟨⟨z0, z1, z2, z3, z4, z5, z6, z7, z8, z9⟩, zf, zl⟩ := walk_facts A3
    obtain ⟨_, i5, i6, il⟩ := H3.wfacts
    clear x0 x1 x2 x3 x4 x5 x6 x7 x8 x9 y0 y1 y2 y3 y4 y5 y6 y7 y8 y9 g5 g6 gl yl
    have f9 := zf 9
    have f8 := zf 8
    clear zf
    go_wp2_with (go_at_call 157; refine (over_any _ _).mono ?_; rintro e w4 ⟨rfl, rfl⟩)
    have A4 : At ((w3.setCell ⟨b, 9, none⟩ (.bool true)).setCell ⟨b, 8, none⟩ (.bool true)) b 74 (Walk.cells { x with done := true, stop := true }) := ((A3.set 9 (.bool true) : At _ _ _ (Walk.cells { x with done := true })).set 8 (.bool true) : At _ _ _ _)
    have H4 := (H3.far hb 9 (.bool true)).far hb 8 (.bool true)
    refine (wop_load { x with done := true, stop := true } b _ H4 A4).mono ?_; rintro e w5 ⟨rfl, hb5⟩
    have A5 := A4.below' hb5
    have H5 := H4.below hb5
    obtain ⟨⟨u0, u1, u2, u3, u4, u5, u6, u7, u8, u9⟩, uf, ul⟩ := walk_facts A5
    have uf7 := uf 7
    clear uf
    go_wp2_with fail
    go_end0
    exact ⟨rfl, H5.far hb 7 _, (A5.set 7 (.int .i64 (s.carried x.curr)) : At _ _ _ (Walk.cells { x with done := true, stop := true, found := s.carried x.curr })), (((O3.trans (setX k b 9 _ _)).trans (setX k b 8 _ _)).thenBelow hb5).trans (setX k b 7 _ _)⟩

set_option maxRecDepth 100000 in
set_option maxHeartbeats 2000000 in
theorem wjudge_seek0 {k : Blks} {s : St} (x : Walk) (b : Nat) (w : World) (h : Holds k s w) (hb : Out k b) (hx : At w b 74 x.cells) (hn : 0 ≤ x.next ∧ x.next ≤ 18446744073709551615) (hv : ¬ 1 < s.peek (s.wordAt (s.carried x.curr))) (hv1 : (s.peek (s.wordAt (s.carried x.curr)) == 1) = false) (hk : (s.key x.curr == x.key) = true) (hm : (x.mode == 2) = true) :
    Calls Tryz.prog 85 #[.pointer (some ⟨b, 0, none⟩), .pointer (some ⟨k.bw, 0, none⟩)] w fun e w' => e = .returned (.tuple #[]) ∧ Holds k (s.load (s.wordAt (s.carried x.curr))) w' ∧ At w' b 74 ({ x with done := true, stop := true } : Walk).cells ∧ Only (OwnX k b) w w' := by
  obtain ⟨⟨x0, x1, x2, x3, x4, x5, x6, x7, x8, x9⟩, xf, xl⟩ := walk_facts hx
  clear xf
  go_enter Tryz.func85, Tryz.ntmps85
  go_wp2_with fail
  refine (wop_any x b _ h hx).mono ?_; rintro e w1 ⟨rfl, hb1⟩
  go_wp2_with fail
  refine (wword_any _ _ (h.below hb1)).mono ?_; rintro e w2 ⟨rfl, H2, hO2⟩
  have A2 := (hx.below' hb1).only hO2 hb.1
  have O2 : Only (OwnX k b) w w2 := (Only.ofBelow _ hb1).trans (onlyX hO2)
  obtain ⟨⟨y0, y1, y2, y3, y4, y5, y6, y7, y8, y9⟩, _, yl⟩ := walk_facts A2
  obtain ⟨_, g5, g6, gl⟩ := H2.wfacts
  go_wp2_with fail
  go_region_held3 (fun w' => w'.cell? ⟨k.bw, 6, none⟩ = some (.pointer (some ⟨k.bb, 0, none⟩)) ∧ w'.cell? ⟨b, 4, none⟩ = some (.int .i64 x.curr) ∧ w'.cell? ⟨b, 0, none⟩ = some (.int .u64 x.key))
    (first
      | go_keep
      | (go_split_ands; refine ⟨?_, ?_, ?_⟩ <;> (rw [hb3.cell (by first | exact gl | exact yl)]; assumption)))
    ((go_at_call 36; refine (key_load x.curr _ H2.drew).mono ?_; rintro e w3 ⟨rfl, hb3⟩))
  all_goals
    have H3 := H2.drew.below hb3
    have A3 := A2.drew.below' hb3
    have O3 : Only (OwnX k b) w w3 := O2.drew.thenBelow hb3
    obtain ⟨⟨z0, z1, z2, z3, z4, z5, z6, z7, z8, z9⟩, zf, zl⟩ := walk_facts A3
    obtain ⟨_, i5, i6, il⟩ := H3.wfacts
    clear x0 x1 x2 x3 x4 x5 x6 x7 x8 x9 y0 y1 y2 y3 y4 y5 y6 y7 y8 y9 g5 g6 gl yl
    have f9 := zf 9
    have f8 := zf 8
    clear zf
    go_wp2_with (go_at_call 157; refine (over_any _ _).mono ?_; rintro e w4 ⟨rfl, rfl⟩)
    have A4 : At ((w3.setCell ⟨b, 9, none⟩ (.bool true)).setCell ⟨b, 8, none⟩ (.bool true)) b 74 (Walk.cells { x with done := true, stop := true }) := ((A3.set 9 (.bool true) : At _ _ _ (Walk.cells { x with done := true })).set 8 (.bool true) : At _ _ _ _)
    go_end0
    exact ⟨rfl, (H3.far hb 9 _).far hb 8 _, A4, (O3.trans (setX k b 9 _ _)).trans (setX k b 8 _ _)⟩

set_option maxRecDepth 100000 in
set_option maxHeartbeats 2000000 in
theorem wjudge_penda {k : Blks} {s : St} (x : Walk) (b : Nat) (w : World) (h : Holds k s w) (hb : Out k b) (hx : At w b 74 x.cells) (hn : 0 ≤ x.next ∧ x.next ≤ 18446744073709551615) (hv : ¬ 1 < s.peek (s.wordAt (s.carried x.curr))) (hv0 : (s.peek (s.wordAt (s.carried x.curr)) == 0) = true) (hk : (s.key x.curr == x.key) = true) (hm : (x.mode == 2) = false) (hm1 : (x.mode == 1) = true) (hs : (x.seen == -1) = true) :
    Calls Tryz.prog 85 #[.pointer (some ⟨b, 0, none⟩), .pointer (some ⟨k.bw, 0, none⟩)] w fun e w' => e = .returned (.tuple #[]) ∧ Holds k (s.load (s.wordAt (s.carried x.curr))) w' ∧ At w' b 74 ({ x with phase := 6 } : Walk).cells ∧ Only (OwnX k b) w w' := by
  obtain ⟨⟨x0, x1, x2, x3, x4, x5, x6, x7, x8, x9⟩, xf, xl⟩ := walk_facts hx
  clear xf
  go_enter Tryz.func85, Tryz.ntmps85
  go_wp2_with fail
  refine (wop_any x b _ h hx).mono ?_; rintro e w1 ⟨rfl, hb1⟩
  go_wp2_with fail
  refine (wword_any _ _ (h.below hb1)).mono ?_; rintro e w2 ⟨rfl, H2, hO2⟩
  have A2 := (hx.below' hb1).only hO2 hb.1
  have O2 : Only (OwnX k b) w w2 := (Only.ofBelow _ hb1).trans (onlyX hO2)
  obtain ⟨⟨y0, y1, y2, y3, y4, y5, y6, y7, y8, y9⟩, _, yl⟩ := walk_facts A2
  obtain ⟨_, g5, g6, gl⟩ := H2.wfacts
  go_wp2_with fail
  go_region_held3 (fun w' => w'.cell? ⟨k.bw, 6, none⟩ = some (.pointer (some ⟨k.bb, 0, none⟩)) ∧ w'.cell? ⟨b, 4, none⟩ = some (.int .i64 x.curr) ∧ w'.cell? ⟨b, 0, none⟩ = some (.int .u64 x.key))
    (first
      | go_keep
      | (go_split_ands; refine ⟨?_, ?_, ?_⟩ <;> (rw [hb3.cell (by first | exact gl | exact yl)]; assumption)))
    ((go_at_call 36; refine (key_load x.curr _ H2.drew).mono ?_; rintro e w3 ⟨rfl, hb3⟩))
  all_goals
    have H3 := H2.drew.below hb3
    have A3 := A2.drew.below' hb3
    have O3 : Only (OwnX k b) w w3 := O2.drew.thenBelow hb3
    obtain ⟨⟨z0, z1, z2, z3, z4, z5, z6, z7, z8, z9⟩, zf, zl⟩ := walk_facts A3
    obtain ⟨_, i5, i6, il⟩ := H3.wfacts
    clear x0 x1 x2 x3 x4 x5 x6 x7 x8 x9 y0 y1 y2 y3 y4 y5 y6 y7 y8 y9 g5 g6 gl yl
    have f2 := zf 2
    clear zf
    go_wp2_with (go_at_call 157; refine (over_any _ _).mono ?_; rintro e w4 ⟨rfl, rfl⟩)
    go_end0
    exact ⟨rfl, (H3.far hb 2 _).far hb 2 _, ((A3.set 2 (.int .i64 5) : At _ _ _ (Walk.cells { x with phase := 5 })).set 2 (.int .i64 6) : At _ _ _ (Walk.cells { x with phase := 6 })), (O3.trans (setX k b 2 _ _)).trans (setX k b 2 _ _)⟩

set_option maxRecDepth 100000 in
set_option maxHeartbeats 2000000 in
theorem wjudge_pendb {k : Blks} {s : St} (x : Walk) (b : Nat) (w : World) (h : Holds k s w) (hb : Out k b) (hx : At w b 74 x.cells) (hn : 0 ≤ x.next ∧ x.next ≤ 18446744073709551615) (hv : ¬ 1 < s.peek (s.wordAt (s.carried x.curr))) (hv0 : (s.peek (s.wordAt (s.carried x.curr)) == 0) = true) (hk : (s.key x.curr == x.key) = true) (hm : (x.mode == 2) = false) (hm1 : (x.mode == 1) = true) (hs : (x.seen == -1) = false) :
    Calls Tryz.prog 85 #[.pointer (some ⟨b, 0, none⟩), .pointer (some ⟨k.bw, 0, none⟩)] w fun e w' => e = .returned (.tuple #[]) ∧ Holds k (s.load (s.wordAt (s.carried x.curr))) w' ∧ At w' b 74 ({ x with phase := 5 } : Walk).cells ∧ Only (OwnX k b) w w' := by
  obtain ⟨⟨x0, x1, x2, x3, x4, x5, x6, x7, x8, x9⟩, xf, xl⟩ := walk_facts hx
  clear xf
  go_enter Tryz.func85, Tryz.ntmps85
  go_wp2_with fail
  refine (wop_any x b _ h hx).mono ?_; rintro e w1 ⟨rfl, hb1⟩
  go_wp2_with fail
  refine (wword_any _ _ (h.below hb1)).mono ?_; rintro e w2 ⟨rfl, H2, hO2⟩
  have A2 := (hx.below' hb1).only hO2 hb.1
  have O2 : Only (OwnX k b) w w2 := (Only.ofBelow _ hb1).trans (onlyX hO2)
  obtain ⟨⟨y0, y1, y2, y3, y4, y5, y6, y7, y8, y9⟩, _, yl⟩ := walk_facts A2
  obtain ⟨_, g5, g6, gl⟩ := H2.wfacts
  go_wp2_with fail
  go_region_held3 (fun w' => w'.cell? ⟨k.bw, 6, none⟩ = some (.pointer (some ⟨k.bb, 0, none⟩)) ∧ w'.cell? ⟨b, 4, none⟩ = some (.int .i64 x.curr) ∧ w'.cell? ⟨b, 0, none⟩ = some (.int .u64 x.key))
    (first
      | go_keep
      | (go_split_ands; refine ⟨?_, ?_, ?_⟩ <;> (rw [hb3.cell (by first | exact gl | exact yl)]; assumption)))
    ((go_at_call 36; refine (key_load x.curr _ H2.drew).mono ?_; rintro e w3 ⟨rfl, hb3⟩))
  all_goals
    have H3 := H2.drew.below hb3
    have A3 := A2.drew.below' hb3
    have O3 : Only (OwnX k b) w w3 := O2.drew.thenBelow hb3
    obtain ⟨⟨z0, z1, z2, z3, z4, z5, z6, z7, z8, z9⟩, zf, zl⟩ := walk_facts A3
    obtain ⟨_, i5, i6, il⟩ := H3.wfacts
    clear x0 x1 x2 x3 x4 x5 x6 x7 x8 x9 y0 y1 y2 y3 y4 y5 y6 y7 y8 y9 g5 g6 gl yl
    have f2 := zf 2
    clear zf
    go_wp2_with (go_at_call 157; refine (over_any _ _).mono ?_; rintro e w4 ⟨rfl, rfl⟩)
    go_end0
    exact ⟨rfl, H3.far hb 2 _, (A3.set 2 (.int .i64 5) : At _ _ _ (Walk.cells { x with phase := 5 })), O3.trans (setX k b 2 _ _)⟩

set_option maxRecDepth 100000 in
set_option maxHeartbeats 2000000 in
theorem wjudge_same {k : Blks} {s : St} (x : Walk) (b : Nat) (w : World) (h : Holds k s w) (hb : Out k b) (hx : At w b 74 x.cells) (hn : 0 ≤ x.next ∧ x.next ≤ 18446744073709551615) (hv : ¬ 1 < s.peek (s.wordAt (s.carried x.curr))) (hv0 : (s.peek (s.wordAt (s.carried x.curr)) == 0) = false) (hk : (s.key x.curr == x.key) = true) (hm : (x.mode == 2) = false) (hm1 : (x.mode == 1) = true) (hs : (x.seen == s.carried x.curr) = true) :
    Calls Tryz.prog 85 #[.pointer (some ⟨b, 0, none⟩), .pointer (some ⟨k.bw, 0, none⟩)] w fun e w' => e = .returned (.tuple #[]) ∧ Holds k (s.load (s.wordAt (s.carried x.curr))) w' ∧ At w' b 74 ({ x with phase := 4 } : Walk).cells ∧ Only (OwnX k b) w w' := by
  obtain ⟨⟨x0, x1, x2, x3, x4, x5, x6, x7, x8, x9⟩, xf, xl⟩ := walk_facts hx
  clear xf
  go_enter Tryz.func85, Tryz.ntmps85
  go_wp2_with fail
  refine (wop_any x b _ h hx).mono ?_; rintro e w1 ⟨rfl, hb1⟩
  go_wp2_with fail
  refine (wword_any _ _ (h.below hb1)).mono ?_; rintro e w2 ⟨rfl, H2, hO2⟩
  have A2 := (hx.below' hb1).only hO2 hb.1
  have O2 : Only (OwnX k b) w w2 := (Only.ofBelow _ hb1).trans (onlyX hO2)
  obtain ⟨⟨y0, y1, y2, y3, y4, y5, y6, y7, y8, y9⟩, _, yl⟩ := walk_facts A2
  obtain ⟨_, g5, g6, gl⟩ := H2.wfacts
  go_wp2_with fail
  go_region_held3 (fun w' => w'.cell? ⟨k.bw, 6, none⟩ = some (.pointer (some ⟨k.bb, 0, none⟩)) ∧ w'.cell? ⟨b, 4, none⟩ = some (.int .i64 x.curr) ∧ w'.cell? ⟨b, 0, none⟩ = some (.int .u64 x.key))
    (first
      | go_keep
      | (go_split_ands; refine ⟨?_, ?_, ?_⟩ <;> (rw [hb3.cell (by first | exact gl | exact yl)]; assumption)))
    ((go_at_call 36; refine (key_load x.curr _ H2.drew).mono ?_; rintro e w3 ⟨rfl, hb3⟩))
  all_goals
    have H3 := H2.drew.below hb3
    have A3 := A2.drew.below' hb3
    have O3 : Only (OwnX k b) w w3 := O2.drew.thenBelow hb3
    obtain ⟨⟨z0, z1, z2, z3, z4, z5, z6, z7, z8, z9⟩, zf, zl⟩ := walk_facts A3
    obtain ⟨_, i5, i6, il⟩ := H3.wfacts
    clear x0 x1 x2 x3 x4 x5 x6 x7 x8 x9 y0 y1 y2 y3 y4 y5 y6 y7 y8 y9 g5 g6 gl yl
    clear zf
    go_wp2_with (go_at_call 157; refine (over_any _ _).mono ?_; rintro e w4 ⟨rfl, rfl⟩)
    go_region_held3 (fun w' => w'.cell? ⟨b, 1, none⟩ = some (.int .i64 x.mode) ∧ w'.cell? ⟨b, 6, none⟩ = some (.int .i64 x.seen))
      (first
        | go_keep
        | (go_split_ands; refine ⟨?_, ?_⟩ <;> (rw [hb5.cell zl]; assumption)))
      ((go_at_call 156; refine (wop_load x b _ H3.drew A3.drew).mono ?_; rintro e w5 ⟨rfl, hb5⟩))
    have H5 := H3.drew.below hb5
    have A5 := A3.drew.below' hb5
    have O5 : Only (OwnX k b) w w5 := O3.drew.thenBelow hb5
    obtain ⟨⟨u0, u1, u2, u3, u4, u5, u6, u7, u8, u9⟩, uf, ul⟩ := walk_facts A5
    have uf2 := uf 2
    clear uf
    go_wp2_with fail
    go_end0
    exact ⟨rfl, H5.far hb 2 _, (A5.set 2 (.int .i64 4) : At _ _ _ (Walk.cells { x with phase := 4 })), O5.trans (setX k b 2 _ _)⟩

set_option maxRecDepth 100000 in
set_option maxHeartbeats 2000000 in
theorem wjudge_in {k : Blks} {s : St} (x : Walk) (b : Nat) (w : World) (h : Holds k s w) (hb : Out k b) (hx : At w b 74 x.cells) (hn : 0 ≤ x.next ∧ x.next ≤ 18446744073709551615) (hv : ¬ 1 < s.peek (s.wordAt (s.carried x.curr))) (hv0 : (s.peek (s.wordAt (s.carried x.curr)) == 0) = false) (hk : (s.key x.curr == x.key) = true) (hm : (x.mode == 2) = false) (hm1 : (x.mode == 1) = true) (hs : (x.seen == s.carried x.curr) = false) :
    Calls Tryz.prog 85 #[.pointer (some ⟨b, 0, none⟩), .pointer (some ⟨k.bw, 0, none⟩)] w fun e w' => e = .returned (.tuple #[]) ∧ Holds k (s.load (s.wordAt (s.carried x.curr))) w' ∧ At w' b 74 (s.advance { x with seen := s.carried x.curr } : Walk).cells ∧ Only (OwnX k b) w w' := by
  obtain ⟨⟨x0, x1, x2, x3, x4, x5, x6, x7, x8, x9⟩, xf, xl⟩ := walk_facts hx
  clear xf
  go_enter Tryz.func85, Tryz.ntmps85
  go_wp2_with fail
  refine (wop_any x b _ h hx).mono ?_; rintro e w1 ⟨rfl, hb1⟩
  go_wp2_with fail
  refine (wword_any _ _ (h.below hb1)).mono ?_; rintro e w2 ⟨rfl, H2, hO2⟩
  have A2 := (hx.below' hb1).only hO2 hb.1
  have O2 : Only (OwnX k b) w w2 := (Only.ofBelow _ hb1).trans (onlyX hO2)
  obtain ⟨⟨y0, y1, y2, y3, y4, y5, y6, y7, y8, y9⟩, _, yl⟩ := walk_facts A2
  obtain ⟨_, g5, g6, gl⟩ := H2.wfacts
  go_wp2_with fail
  go_region_held3 (fun w' => w'.cell? ⟨k.bw, 6, none⟩ = some (.pointer (some ⟨k.bb, 0, none⟩)) ∧ w'.cell? ⟨b, 4, none⟩ = some (.int .i64 x.curr) ∧ w'.cell? ⟨b, 0, none⟩ = some (.int .u64 x.key))
    (first
      | go_keep
      | (go_split_ands; refine ⟨?_, ?_, ?_⟩ <;> (rw [hb3.cell (by first | exact gl | exact yl)]; assumption)))
    ((go_at_call 36; refine (key_load x.curr _ H2.drew).mono ?_; rintro e w3 ⟨rfl, hb3⟩))
  all_goals
    have H3 := H2.drew.below hb3
    have A3 := A2.drew.below' hb3
    have O3 : Only (OwnX k b) w w3 := O2.drew.thenBelow hb3
    obtain ⟨⟨z0, z1, z2, z3, z4, z5, z6, z7, z8, z9⟩, zf, zl⟩ := walk_facts A3
    obtain ⟨_, i5, i6, il⟩ := H3.wfacts
    clear x0 x1 x2 x3 x4 x5 x6 x7 x8 x9 y0 y1 y2 y3 y4 y5 y6 y7 y8 y9 g5 g6 gl yl
    clear zf
    go_wp2_with (go_at_call 157; refine (over_any _ _).mono ?_; rintro e w4 ⟨rfl, rfl⟩)
    go_region_held3 (fun w' => w'.cell? ⟨b, 1, none⟩ = some (.int .i64 x.mode) ∧ w'.cell? ⟨b, 6, none⟩ = some (.int .i64 x.seen))
      (first
        | go_keep
        | (go_split_ands; refine ⟨?_, ?_⟩ <;> (rw [hb5.cell zl]; assumption)))
      ((go_at_call 156; refine (wop_load x b _ H3.drew A3.drew).mono ?_; rintro e w5 ⟨rfl, hb5⟩))
    have H5 := H3.drew.below hb5
    have A5 := A3.drew.below' hb5
    have O5 : Only (OwnX k b) w w5 := O3.drew.thenBelow hb5
    obtain ⟨⟨u0, u1, u2, u3, u4, u5, u6, u7, u8, u9⟩, uf, ul⟩ := walk_facts A5
    clear uf
    go_wp2_with fail
    refine (wop_load x b _ H5 A5).mono ?_; rintro e w6 ⟨rfl, hb6⟩
    have H6 := H5.below hb6
    have A6 := A5.below' hb6
    obtain ⟨⟨u0, u1, u2, u3, u4, u5, u6, u7, u8, u9⟩, uf, ul⟩ := walk_facts A6
    have uf6 := uf 6
    clear uf
    go_wp2_with fail
    refine (advance_any { x with seen := s.carried x.curr } b _ (H6.far hb 6 _) hb (A6.set 6 (.int .i64 (s.carried x.curr)) : At _ _ _ _) hn).mono ?_; rintro e w7 ⟨rfl, H7, A7, O7⟩
    go_wp2_with fail
    go_end0
    exact ⟨rfl, H7, A7, ((O5.thenBelow hb6).trans (setX k b 6 _ _)).trans O7⟩

set_option maxRecDepth 100000 in
set_option maxHeartbeats 2000000 in
theorem wjudge_none {k : Blks} {s : St} (x : Walk) (b : Nat) (w : World) (h : Holds k s w) (hb : Out k b) (hx : At w b 74 x.cells) (hn : 0 ≤ x.next ∧ x.next ≤ 18446744073709551615) (hv : ¬ 1 < s.peek (s.wordAt (s.carried x.curr))) (hk : (s.key x.curr == x.key) = true) (hm : (x.mode == 2) = false) (hm1 : (x.mode == 1) = false) :
    Calls Tryz.prog 85 #[.pointer (some ⟨b, 0, none⟩), .pointer (some ⟨k.bw, 0, none⟩)] w fun e w' => e = .returned (.tuple #[]) ∧ Holds k (s.load (s.wordAt (s.carried x.curr))) w' ∧ At w' b 74 (s.advance x : Walk).cells ∧ Only (OwnX k b) w w' := by
  obtain ⟨⟨x0, x1, x2, x3, x4, x5, x6, x7, x8, x9⟩, xf, xl⟩ := walk_facts hx
  clear xf
  go_enter Tryz.func85, Tryz.ntmps85
  go_wp2_with fail
  refine (wop_any x b _ h hx).mono ?_; rintro e w1 ⟨rfl, hb1⟩
  go_wp2_with fail
  refine (wword_any _ _ (h.below hb1)).mono ?_; rintro e w2 ⟨rfl, H2, hO2⟩
  have A2 := (hx.below' hb1).only hO2 hb.1
  have O2 : Only (OwnX k b) w w2 := (Only.ofBelow _ hb1).trans (onlyX hO2)
  obtain ⟨⟨y0, y1, y2, y3, y4, y5, y6, y7, y8, y9⟩, _, yl⟩ := walk_facts A2
  obtain ⟨_, g5, g6, gl⟩ := H2.wfacts
  go_wp2_with fail
  go_region_held3 (fun w' => w'.cell? ⟨k.bw, 6, none⟩ = some (.pointer (some ⟨k.bb, 0, none⟩)) ∧ w'.cell? ⟨b, 4, none⟩ = some (.int .i64 x.curr) ∧ w'.cell? ⟨b, 0, none⟩ = some (.int .u64 x.key))
    (first
      | go_keep
      | (go_split_ands; refine ⟨?_, ?_, ?_⟩ <;> (rw [hb3.cell (by first | exact gl | exact yl)]; assumption)))
    ((go_at_call 36; refine (key_load x.curr _ H2.drew).mono ?_; rintro e w3 ⟨rfl, hb3⟩))
  all_goals
    have H3 := H2.drew.below hb3
    have A3 := A2.drew.below' hb3
    have O3 : Only (OwnX k b) w w3 := O2.drew.thenBelow hb3
    obtain ⟨⟨z0, z1, z2, z3, z4, z5, z6, z7, z8, z9⟩, zf, zl⟩ := walk_facts A3
    obtain ⟨_, i5, i6, il⟩ := H3.wfacts
    clear x0 x1 x2 x3 x4 x5 x6 x7 x8 x9 y0 y1 y2 y3 y4 y5 y6 y7 y8 y9 g5 g6 gl yl
    clear zf
    go_wp2_with (go_at_call 157; refine (over_any _ _).mono ?_; rintro e w4 ⟨rfl, rfl⟩)
    go_quiet (fail)
    go_wp2_with fail
    refine (advance_any x b _ (H3.drewN _) hb (A3 : At (w3.drewN nq) _ _ _) hn).mono ?_; rintro e w5 ⟨rfl, H5, A5, O5⟩
    go_wp2_with fail
    go_end0
    exact ⟨rfl, H5, A5, (O3.drewN _).trans O5⟩

end Go.Proofs.YtccmjljlfgbicaaGreat
