/- Contracts of a walk's phases that turn words: unlink, mark, again, admit, refuse. -/
import Derived.Test.YtccmjljlfgbicaaGreatWalkB
namespace Go.Proofs.YtccmjljlfgbicaaGreat
open Go.ChangeShapes Go.WideShapes Go.ChangeAt Go.RowKit

/-- To unlink the node. -/
def St.walkUnlink (s : St) (x : Walk) : St × Walk :=
  (s.swap (s.nextAt x.pred) (refOf x.curr false) (refOf (x.next / 2) false),
    if s.swaps (s.nextAt x.pred) (refOf x.curr false) then s.arrive x (x.next / 2) else { x with phase := 0 })

theorem ref_fits (n : Int) (m : Bool) : 0 ≤ refOf n m ∧ refOf n m ≤ 18446744073709551615 := by have := refOf_range n m; omega

set_option maxRecDepth 100000 in
set_option maxHeartbeats 2000000 in
theorem wunlink_any {k : Blks} {s : St} (x : Walk) (b : Nat) (w : World) (h : Holds k s w) (hb : Out k b) (hx : At w b 74 x.cells) (hn : 0 ≤ x.next ∧ x.next ≤ 18446744073709551615) :
    Calls Tryz.prog 84 #[.pointer (some ⟨b, 0, none⟩), .pointer (some ⟨k.bw, 0, none⟩)] w fun e w' => e = .returned (.tuple #[]) ∧ Holds k (s.walkUnlink x).1 w' ∧ At w' b 74 (s.walkUnlink x).2.cells ∧ Only (OwnX k b) w w' := by
  obtain ⟨⟨x0, x1, x2, x3, x4, x5, x6, x7, x8, x9⟩, xf, xl⟩ := walk_facts hx
  clear xf
  cases hs : s.swaps (s.nextAt x.pred) (refOf x.curr false)
  all_goals
    have Hs := Lib.hid hs
    clear hs
    go_enter Tryz.func84, Tryz.ntmps84
    go_wp2_with fail
    refine (index_any _ _ hn.1 hn.2).mono ?_; rintro e w1 ⟨rfl, rfl⟩
    go_wp2_with fail
    go_region_held3 (fun w' => w'.cell? ⟨b, 3, none⟩ = some (.int .i64 x.pred) ∧ w'.cell? ⟨b, 4, none⟩ = some (.int .i64 x.curr))
      (first
        | go_keep
        | (go_split_ands; refine ⟨?_, ?_⟩ <;> (rw [hO.cell (Nat.lt_of_lt_of_le xl (Nat.le_trans hb2.size hb3.size)) hb.1]; assumption))
        | (go_split_ands; refine ⟨?_, ?_⟩ <;> (rw [hb3.cell (Nat.lt_of_lt_of_le xl hb2.size)]; assumption))
        | (refine ⟨?_, ?_⟩ <;> (rw [hb2.cell (by simp; omega)]; go_simp)))
      ((first | (go_at_call 155; ((with_reducible refine (pack_any x.curr false _).mono ?_); rintro e w2 ⟨rfl, hb2⟩)) | (go_at_call 155; ((with_reducible refine (pack_any (x.next / 2) false _).mono ?_); rintro e w3 ⟨rfl, hb3⟩)) | (go_at_call 154; refine (wlink_any _ _ _ _ ((h.drew.below hb2).below hb3) (ref_fits _ _)).mono ?_; rintro e w4 ⟨rfl, H4, hO⟩)))
    rw [Hs.out]
    have A4 := ((hx.drew.below' hb2).below' hb3).only hO hb.1
    have O4 : Only (OwnX k b) w w4 := (((Only.refl _ w).drew.thenBelow hb2).thenBelow hb3).trans (onlyX hO)
    obtain ⟨⟨y0, y1, y2, y3, y4, y5, y6, y7, y8, y9⟩, yf, yl⟩ := walk_facts A4
    have yf2 := yf 2
    clear yf
  · go_wp2_with fail
    refine bodyPost_ret (results_none rfl _ _ _) rfl ?_
    refine ⟨rfl, H4.far hb 2 _, ?_, O4.trans (setX k b 2 _ _)⟩
    unfold St.walkUnlink; rw [Hs.out]
    exact (A4.set 2 (.int .i64 0) : At _ _ _ (Walk.cells { x with phase := 0 }))
  · go_wp2_with fail
    refine (arrive_any x (x.next / 2) b _ H4 hb A4).mono ?_; rintro e w5 ⟨rfl, H5, A5, O5⟩
    go_wp2_with fail
    go_end0
    refine ⟨rfl, H5, ?_, O4.trans O5⟩
    unfold St.walkUnlink; rw [Hs.out]
    exact A5

/-- To mark the node's reference. -/
def St.walkMark (s : St) (x : Walk) : St × Walk := (s.swap (s.nextAt x.curr) x.next (markOf x.next), { x with phase := 1 })

set_option maxRecDepth 100000 in
set_option maxHeartbeats 2000000 in
theorem wmark_any {k : Blks} {s : St} (x : Walk) (b : Nat) (w : World) (h : Holds k s w) (hb : Out k b) (hx : At w b 74 x.cells) (hn : 0 ≤ x.next ∧ x.next ≤ 18446744073709551615) :
    Calls Tryz.prog 86 #[.pointer (some ⟨b, 0, none⟩), .pointer (some ⟨k.bw, 0, none⟩)] w fun e w' => e = .returned (.tuple #[]) ∧ Holds k (s.walkMark x).1 w' ∧ At w' b 74 (s.walkMark x).2.cells ∧ Only (OwnX k b) w w' := by
  obtain ⟨⟨x0, x1, x2, x3, x4, x5, x6, x7, x8, x9⟩, xf, xl⟩ := walk_facts hx
  clear xf
  go_enter Tryz.func86, Tryz.ntmps86
  go_wp2_with fail
  go_region_held3 (fun w' => w'.cell? ⟨b, 4, none⟩ = some (.int .i64 x.curr) ∧ w'.cell? ⟨b, 5, none⟩ = some (.int .u64 x.next))
    (first
      | go_keep
      | (refine ⟨?_, ?_⟩ <;> (rw [hO.cell xl hb.1]; assumption)))
    ((first | (go_at_call 159; (refine (mark_any _ _ hn.1 hn.2).mono ?_; rintro e w2 ⟨rfl, rfl⟩)) | (go_at_call 154; refine (wlink_any _ _ _ _ h.drew (markOf_range hn.1 hn.2)).mono ?_; rintro e w4 ⟨rfl, H4, hO⟩)))
  all_goals
    have A4 := hx.drew.only hO hb.1
    have O4 : Only (OwnX k b) w w4 := (Only.refl _ w).drew.trans (onlyX hO)
    obtain ⟨⟨y0, y1, y2, y3, y4, y5, y6, y7, y8, y9⟩, yf, yl⟩ := walk_facts A4
    have yf2 := yf 2
    clear yf
    go_wp2_with fail
    go_end0
    exact ⟨rfl, H4.far hb 2 _, (A4.set 2 (.int .i64 1) : At _ _ _ (Walk.cells { x with phase := 1 })), O4.trans (setX k b 2 _ _)⟩

/-- To ask whether the operation that was seen is in. -/
def St.walkAgain (s : St) (x : Walk) : St × Walk :=
  (s.load (s.wordAt x.seen), if s.peek (s.wordAt x.seen) == 1 then { x with phase := 7 } else { x with seen := -1, phase := 6 })

set_option maxRecDepth 100000 in
set_option maxHeartbeats 2000000 in
theorem wagain_any {k : Blks} {s : St} (x : Walk) (b : Nat) (w : World) (h : Holds k s w) (hb : Out k b) (hx : At w b 74 x.cells) :
    Calls Tryz.prog 87 #[.pointer (some ⟨b, 0, none⟩), .pointer (some ⟨k.bw, 0, none⟩)] w fun e w' => e = .returned (.tuple #[]) ∧ Holds k (s.walkAgain x).1 w' ∧ At w' b 74 (s.walkAgain x).2.cells ∧ Only (OwnX k b) w w' := by
  obtain ⟨⟨x0, x1, x2, x3, x4, x5, x6, x7, x8, x9⟩, xf, xl⟩ := walk_facts hx
  clear xf
  cases hs : s.peek (s.wordAt x.seen) == 1
  all_goals
    go_enter Tryz.func87, Tryz.ntmps87
    go_wp2_with fail
    refine (wword_any _ _ h).mono ?_; rintro e w4 ⟨rfl, H4, hO⟩
    have A4 := hx.only hO hb.1
    obtain ⟨⟨y0, y1, y2, y3, y4, y5, y6, y7, y8, y9⟩, yf, yl⟩ := walk_facts A4
    have yf2 := yf 2
    have yf6 := yf 6
    clear yf
    go_wp2_with fail
  · go_end0
    refine ⟨rfl, (H4.far hb 6 _).far hb 2 _, ?_, ((onlyX hO).trans (setX k b 6 _ _)).trans (setX k b 2 _ _)⟩
    unfold St.walkAgain; rw [hs]
    exact ((A4.set 6 (.int .i64 (-1)) : At _ _ _ (Walk.cells { x with seen := -1 })).set 2 (.int .i64 6) : At _ _ _ (Walk.cells { x with seen := -1, phase := 6 }))
  · refine bodyPost_ret (results_none rfl _ _ _) rfl ?_
    refine ⟨rfl, H4.far hb 2 _, ?_, (onlyX hO).trans (setX k b 2 _ _)⟩
    unfold St.walkAgain; rw [hs]
    exact (A4.set 2 (.int .i64 7) : At _ _ _ (Walk.cells { x with phase := 7 }))

set_option maxRecDepth 100000 in
set_option maxHeartbeats 2000000 in
theorem wop_any {k : Blks} {s : St} (x : Walk) (b : Nat) (w : World) (h : Holds k s w) (hx : At w b 74 x.cells) :
    Calls Tryz.prog 156 #[.pointer (some ⟨b, 0, none⟩), .pointer (some ⟨k.bw, 0, none⟩)] w fun e w' => e = .returned (.int .i64 (s.carried x.curr)) ∧ Below w.heap.size w w' := by
  obtain ⟨⟨x0, x1, x2, x3, x4, x5, x6, x7, x8, x9⟩, xf, xl⟩ := walk_facts hx
  obtain ⟨_, g5, g6, gl⟩ := h.wfacts
  clear xf
  go_enter Tryz.func156, Tryz.ntmps156
  go_wp2_with fail
  go_region_held3 (fun w' => w'.cell? ⟨b, 4, none⟩ = some (.int .i64 x.curr) ∧ w'.cell? ⟨k.bw, 6, none⟩ = some (.pointer (some ⟨k.bb, 0, none⟩)))
    (go_keep)
    ((go_at_call 38; refine (carried_any _ _ h.drew).mono ?_; rintro e w2 ⟨rfl, rfl⟩))
  all_goals
    go_wp2_with fail
    go_ret
    exact ⟨rfl, (Below.refl _ _).drew⟩

/-- To decide a pending insert. -/
def St.walkTurn (s : St) (x : Walk) (to : Int) : St × Walk := (s.swap (s.wordAt (s.carried x.curr)) 0 to, { x with phase := 3 })

set_option maxRecDepth 100000 in
set_option maxHeartbeats 2000000 in
theorem wwturn_any {k : Blks} {s : St} (x : Walk) (to : Int) (b : Nat) (w : World) (h : Holds k s w) (hb : Out k b) (hx : At w b 74 x.cells) (ht : 0 ≤ to ∧ to ≤ 18446744073709551615) :
    Calls Tryz.prog 160 #[.pointer (some ⟨b, 0, none⟩), .pointer (some ⟨k.bw, 0, none⟩), .int .u64 to] w fun e w' => e = .returned (.tuple #[]) ∧ Holds k (s.walkTurn x to).1 w' ∧ At w' b 74 (s.walkTurn x to).2.cells ∧ Only (OwnX k b) w w' := by
  obtain ⟨⟨x0, x1, x2, x3, x4, x5, x6, x7, x8, x9⟩, xf, xl⟩ := walk_facts hx
  obtain ⟨_, g5, g6, gl⟩ := h.wfacts
  clear xf
  go_enter Tryz.func160, Tryz.ntmps160
  go_wp2_with fail
  refine (wop_any x b _ h hx).mono ?_; rintro e w1 ⟨rfl, hb1⟩
  go_wp2_with fail
  refine (wturn_any _ _ _ _ (h.below hb1) ht).mono ?_; rintro e w4 ⟨rfl, H4, hO⟩
  have A4 := (hx.below' hb1).only hO hb.1
  obtain ⟨⟨y0, y1, y2, y3, y4, y5, y6, y7, y8, y9⟩, yf, yl⟩ := walk_facts A4
  have yf2 := yf 2
  clear yf
  go_wp2_with fail
  go_end0
  exact ⟨rfl, H4.far hb 2 _, (A4.set 2 (.int .i64 3) : At _ _ _ (Walk.cells { x with phase := 3 })), ((Only.ofBelow _ hb1).trans (onlyX hO)).trans (setX k b 2 _ _)⟩

set_option maxHeartbeats 2000000 in
theorem wadmit_any {k : Blks} {s : St} (x : Walk) (b : Nat) (w : World) (h : Holds k s w) (hb : Out k b) (hx : At w b 74 x.cells) :
    Calls Tryz.prog 88 #[.pointer (some ⟨b, 0, none⟩), .pointer (some ⟨k.bw, 0, none⟩)] w fun e w' => e = .returned (.tuple #[]) ∧ Holds k (s.walkTurn x 1).1 w' ∧ At w' b 74 (s.walkTurn x 1).2.cells ∧ Only (OwnX k b) w w' := by
  go_enter Tryz.func88, Tryz.ntmps88
  go_wp2_with fail
  refine (wwturn_any x 1 b _ h hb hx (by omega)).mono ?_; rintro e w4 ⟨rfl, H4, A4, hO⟩
  go_wp2_with fail
  go_end0
  exact ⟨rfl, H4, A4, hO⟩

set_option maxHeartbeats 2000000 in
theorem wrefuse_any {k : Blks} {s : St} (x : Walk) (b : Nat) (w : World) (h : Holds k s w) (hb : Out k b) (hx : At w b 74 x.cells) :
    Calls Tryz.prog 89 #[.pointer (some ⟨b, 0, none⟩), .pointer (some ⟨k.bw, 0, none⟩)] w fun e w' => e = .returned (.tuple #[]) ∧ Holds k (s.walkTurn x 2).1 w' ∧ At w' b 74 (s.walkTurn x 2).2.cells ∧ Only (OwnX k b) w w' := by
  go_enter Tryz.func89, Tryz.ntmps89
  go_wp2_with fail
  refine (wwturn_any x 2 b _ h hb hx (by omega)).mono ?_; rintro e w4 ⟨rfl, H4, A4, hO⟩
  go_wp2_with fail
  go_end0
  exact ⟨rfl, H4, A4, hO⟩

end Go.Proofs.YtccmjljlfgbicaaGreat
