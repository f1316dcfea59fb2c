/- Contracts of a walk's phases, but for judging. -/
import Derived.Test.YtccmjljlfgbicaaGreatWalkA
namespace Go.Proofs.YtccmjljlfgbicaaGreat
open Go.ChangeShapes Go.WideShapes Go.ChangeAt Go.RowKit


/-- To advance. -/
def St.advance (s : St) (x : Walk) : Walk := s.arrive { x with pred := x.curr } (x.next / 2)

set_option maxRecDepth 100000 in
set_option maxHeartbeats 2000000 in
theorem advance_any {k : Blks} {s : St} (x : Walk) (b : Nat) (w : World) (h : Holds k s w) (hb : Out k b) (hx : At w b 74 x.cells) (hn : 0 ≤ x.next ∧ x.next ≤ 18446744073709551615) :
    Calls Tryz.prog 158 #[.pointer (some ⟨b, 0, none⟩), .pointer (some ⟨k.bw, 0, none⟩)] w fun e w' => e = .returned (.tuple #[]) ∧ Holds k s w' ∧ At w' b 74 (s.advance x).cells ∧ Only (OwnX k b) w w' := by
  obtain ⟨⟨x0, x1, x2, x3, x4, x5, x6, x7, x8, x9⟩, xf, xl⟩ := walk_facts hx
  have H1 := h.far hb 3 (.int .i64 x.curr)
  have A1 : At (w.setCell ⟨b, 3, none⟩ (.int .i64 x.curr)) b 74 (Walk.cells { x with pred := x.curr }) := hx.set 3 _
  have O1 := setX k b 3 w (.int .i64 x.curr)
  go_enter Tryz.func158, Tryz.ntmps158
  go_wp2_with fail
  refine (index_any _ _ hn.1 hn.2).mono ?_; rintro e w1 ⟨rfl, rfl⟩
  go_wp2_with fail
  refine (arrive_any { x with pred := x.curr } (x.next / 2) b _ H1 hb A1).mono ?_; rintro e w2 ⟨rfl, H2, A2, O2⟩
  go_wp2_with fail
  go_end0
  exact ⟨rfl, H2, A2, O1.trans O2⟩

/-- The first phase. -/
def St.walkBegin (s : St) (x : Walk) : St × Walk :=
  (s.load (s.nextAt (s.head x.key)), s.arrive { x with pred := s.head x.key, seen := -1 } (s.peek (s.nextAt (s.head x.key)) / 2))

set_option maxRecDepth 100000 in
set_option maxHeartbeats 2000000 in
theorem wbegin_any {k : Blks} {s : St} (x : Walk) (b : Nat) (w : World) (h : Holds k s w) (hb : Out k b) (hx : At w b 74 x.cells) :
    Calls Tryz.prog 82 #[.pointer (some ⟨b, 0, none⟩), .pointer (some ⟨k.bw, 0, none⟩)] w fun e w' => e = .returned (.tuple #[]) ∧ Holds k (s.walkBegin x).1 w' ∧ At w' b 74 (s.walkBegin x).2.cells ∧ Only (OwnX k b) w w' := by
  obtain ⟨⟨x0, x1, x2, x3, x4, x5, x6, x7, x8, x9⟩, xf, xl⟩ := walk_facts hx
  clear xf
  go_enter Tryz.func82, Tryz.ntmps82
  go_wp2_with fail
  refine (whead_any x.key _ h).mono ?_; rintro e w1 ⟨rfl, hb1⟩
  have H1 := h.below hb1
  have A1 := hx.below' hb1
  obtain ⟨⟨y0, y1, y2, y3, y4, y5, y6, y7, y8, y9⟩, yf, yl⟩ := walk_facts A1
  have A2 : At ((w1.setCell ⟨b, 3, none⟩ (.int .i64 (s.head x.key))).setCell ⟨b, 6, none⟩ (.int .i64 (-1))) b 74 (Walk.cells { x with pred := s.head x.key, seen := -1 }) := ((A1.set 3 _ : At (w1.setCell ⟨b, 3, none⟩ (.int .i64 (s.head x.key))) b 74 (Walk.cells { x with pred := s.head x.key })).set 6 _ : At _ _ _ _)
  have H2 := (H1.far hb 3 (.int .i64 (s.head x.key))).far hb 6 (.int .i64 (-1))
  have O2 := ((Only.ofBelow (OwnX k b) hb1).trans (setX k b 3 w1 (.int .i64 (s.head x.key)))).trans (setX k b 6 _ (.int .i64 (-1)))
  go_wp2_with fail
  refine (wnext_any _ _ H2).mono ?_; rintro e w3 ⟨rfl, H3, O3⟩
  have hp := peek_range h.ok (s.nextAt (s.head x.key))
  go_wp2_with fail
  refine (index_any _ _ hp.1 hp.2).mono ?_; rintro e w4 ⟨rfl, rfl⟩
  go_wp2_with fail
  refine (arrive_any { x with pred := s.head x.key, seen := -1 } _ b _ H3 hb (A2.only O3 hb.1)).mono ?_; rintro e w4 ⟨rfl, H4, A4, O4⟩
  go_wp2_with fail
  go_end0
  exact ⟨rfl, H4, A4, (O2.trans (onlyX O3)).trans O4⟩

/-- The second phase: to look at the next reference. -/
def St.walkPeek (s : St) (x : Walk) : St × Walk :=
  (s.load (s.nextAt x.curr), { x with next := s.peek (s.nextAt x.curr), phase := if s.peek (s.nextAt x.curr) % 2 == 1 then 2 else 3 })

set_option maxRecDepth 100000 in
set_option maxHeartbeats 2000000 in
theorem wpeek_any {k : Blks} {s : St} (x : Walk) (b : Nat) (w : World) (h : Holds k s w) (hb : Out k b) (hx : At w b 74 x.cells) :
    Calls Tryz.prog 83 #[.pointer (some ⟨b, 0, none⟩), .pointer (some ⟨k.bw, 0, none⟩)] w fun e w' => e = .returned (.tuple #[]) ∧ Holds k (s.walkPeek x).1 w' ∧ At w' b 74 (s.walkPeek x).2.cells ∧ Only (OwnX k b) w w' := by
  obtain ⟨⟨x0, x1, x2, x3, x4, x5, x6, x7, x8, x9⟩, xf, xl⟩ := walk_facts hx
  clear xf
  have hp := peek_range h.ok (s.nextAt x.curr)
  cases hm : s.peek (s.nextAt x.curr) % 2 == 1
  all_goals
    have Hm := Lib.hid hm
    clear hm
    go_enter Tryz.func83, Tryz.ntmps83
    go_wp2_with fail
    refine (wnext_any _ _ h).mono ?_; rintro e w3 ⟨rfl, H3, O3⟩
    have A3 := hx.only O3 hb.1
    obtain ⟨⟨y0, y1, y2, y3, y4, y5, y6, y7, y8, y9⟩, yf, yl⟩ := walk_facts A3
    have yf5 := yf 5
    have yf2 := yf 2
    clear yf
    go_wp2_with fail
    refine (marked_any _ _ hp.1 hp.2).mono ?_; rintro e w4 ⟨rfl, rfl⟩
    rw [Hm.out]
    go_wp2_with fail
    go_end0
  · have A4 : At ((w3.setCell ⟨b, 5, none⟩ (.int .u64 (s.peek (s.nextAt x.curr)))).setCell ⟨b, 2, none⟩ (.int .i64 3)) b 74 (Walk.cells { x with next := s.peek (s.nextAt x.curr), phase := 3 }) := ((A3.set 5 _ : At (w3.setCell ⟨b, 5, none⟩ (.int .u64 (s.peek (s.nextAt x.curr)))) b 74 (Walk.cells { x with next := s.peek (s.nextAt x.curr) })).set 2 _ : At _ _ _ _)
    refine ⟨rfl, (H3.far hb 5 _).far hb 2 _, ?_, ((onlyX O3).trans (setX k b 5 _ _)).trans (setX k b 2 _ _)⟩
    unfold St.walkPeek; rw [Hm.out]; exact A4
  · have A4 : At (((w3.setCell ⟨b, 5, none⟩ (.int .u64 (s.peek (s.nextAt x.curr)))).setCell ⟨b, 2, none⟩ (.int .i64 3)).setCell ⟨b, 2, none⟩ (.int .i64 2)) b 74 (Walk.cells { x with next := s.peek (s.nextAt x.curr), phase := 2 }) := (((A3.set 5 _ : At (w3.setCell ⟨b, 5, none⟩ (.int .u64 (s.peek (s.nextAt x.curr)))) b 74 (Walk.cells { x with next := s.peek (s.nextAt x.curr) })).set 2 (.int .i64 3) : At ((w3.setCell ⟨b, 5, none⟩ (.int .u64 (s.peek (s.nextAt x.curr)))).setCell ⟨b, 2, none⟩ (.int .i64 3)) b 74 (Walk.cells { x with next := s.peek (s.nextAt x.curr), phase := 3 })).set 2 _ : At _ _ _ _)
    refine ⟨rfl, ((H3.far hb 5 _).far hb 2 _).far hb 2 _, ?_, (((onlyX O3).trans (setX k b 5 _ _)).trans (setX k b 2 _ _)).trans (setX k b 2 _ _)⟩
    unfold St.walkPeek; rw [Hm.out]; exact A4

end Go.Proofs.YtccmjljlfgbicaaGreat
