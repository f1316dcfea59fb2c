/- The contracts of walk.New and walk.Step. -/
import Derived.Test.YtccmjljlfgbicaaGreatWalkD
import Derived.Laws.EntriesVeiled
namespace Go.Proofs.YtccmjljlfgbicaaGreat
open Go.ChangeShapes Go.WideShapes Go.ChangeAt Go.RowKit

/-- To judge the node, by its operation's word. -/
def St.judged (s : St) (x : Walk) (v : Int) : Walk :=
  if 1 < v then { x with phase := 4 }
  else if s.key x.curr ≠ x.key then s.advance x
  else if x.mode = 2 then { x with done := true, stop := true, found := if v = 1 then s.carried x.curr else x.found }
  else if x.mode = 1 then
    (if v = 0 then { x with phase := if x.seen = -1 then 6 else 5 }
     else if x.seen = s.carried x.curr then { x with phase := 4 }
     else s.advance { x with seen := s.carried x.curr })
  else s.advance x
def St.walkJudge (s : St) (x : Walk) : St × Walk := (s.load (s.wordAt (s.carried x.curr)), s.judged x (s.peek (s.wordAt (s.carried x.curr))))

theorem wjudge_any {k : Blks} {s : St} (x : Walk) (b : Nat) (w : World) (h : Holds k s w) (hb : Out k b) (hx : At w b 74 x.cells) (hn : 0 ≤ x.next ∧ x.next ≤ 18446744073709551615) :
    Calls Tryz.prog 85 #[.pointer (some ⟨b, 0, none⟩), .pointer (some ⟨k.bw, 0, none⟩)] w fun e w' => e = .returned (.tuple #[]) ∧ Holds k (s.walkJudge x).1 w' ∧ At w' b 74 (s.walkJudge x).2.cells ∧ Only (OwnX k b) w w' := by
  have hp := peek_range h.ok (s.wordAt (s.carried x.curr))
  unfold St.walkJudge St.judged
  by_cases hv : 1 < s.peek (s.wordAt (s.carried x.curr))
  · rw [if_pos hv]; exact wjudge_over x b w h hb hx hn hv
  rw [if_neg hv]
  by_cases hkn : s.key x.curr ≠ x.key
  · rw [if_pos hkn]; exact wjudge_other x b w h hb hx hn hv (by simpa using hkn)
  rw [if_neg hkn]
  have hk : s.key x.curr = x.key := Decidable.not_not.1 hkn
  have hk' : (s.key x.curr == x.key) = true := by simpa using hk
  by_cases hm : x.mode = 2
  · rw [if_pos hm]
    by_cases h1 : s.peek (s.wordAt (s.carried x.curr)) = 1
    · rw [if_pos h1]; exact wjudge_seek1 x b w h hb hx hn hv (by simpa using h1) hk' (by simpa using hm)
    · rw [if_neg h1]; exact wjudge_seek0 x b w h hb hx hn hv (by simpa using h1) hk' (by simpa using hm)
  rw [if_neg hm]
  have hm' : (x.mode == 2) = false := by simpa using hm
  by_cases hm1 : x.mode = 1
  · rw [if_pos hm1]
    have hm1' : (x.mode == 1) = true := by simpa using hm1
    by_cases h0 : s.peek (s.wordAt (s.carried x.curr)) = 0
    · rw [if_pos h0]
      by_cases hs : x.seen = -1
      · rw [if_pos hs]; exact wjudge_penda x b w h hb hx hn hv (by simpa using h0) hk' hm' hm1' (by simpa using hs)
      · rw [if_neg hs]; exact wjudge_pendb x b w h hb hx hn hv (by simpa using h0) hk' hm' hm1' (by simpa using hs)
    · rw [if_neg h0]
      by_cases hs : x.seen = s.carried x.curr
      · rw [if_pos hs]; exact wjudge_same x b w h hb hx hn hv (by simpa using h0) hk' hm' hm1' (by simpa using hs)
      · rw [if_neg hs]; exact wjudge_in x b w h hb hx hn hv (by simpa using h0) hk' hm' hm1' (by simpa using hs)
  · rw [if_neg hm1]; exact wjudge_none x b w h hb hx hn hv hk' hm' (by simpa using hm1)

/-- One step of a walk. -/
def St.walkStep (s : St) (x : Walk) : St × Walk :=
  if x.done then (s, x)
  else if x.phase < 0 ∨ 8 ≤ x.phase then (s, { x with done := true })
  else if x.phase = 0 then s.walkBegin x
  else if x.phase = 1 then s.walkPeek x
  else if x.phase = 2 then s.walkUnlink x
  else if x.phase = 3 then s.walkJudge x
  else if x.phase = 4 then s.walkMark x
  else if x.phase = 5 then s.walkAgain x
  else if x.phase = 6 then s.walkTurn x 1
  else s.walkTurn x 2

def Walk.new (key mode : Int) : Walk := ⟨key, mode, 0, 0, 0, 0, -1, -1, false, false⟩

set_option maxRecDepth 100000 in
set_option maxHeartbeats 1000000 in
theorem walknew_any (key mode : Int) (w : World) :
    Calls Tryz.prog 27 #[.int .u64 key, .int .i64 mode] w fun e w' => e = .returned (Walk.new key mode).val ∧ Below w.heap.size w w' := by
  go_enter Tryz.func27, Tryz.ntmps27
  go_wp2
  exact bodyPost_ret (v := (Walk.new key mode).val) (by simp [results, Tryz.results27, go_sem, Walk.new]) rfl ⟨rfl, (Below.refl _ _).alloc (Nat.le_refl _) _⟩

theorem only_drop {k : Blks} {b : Nat} {w w' : World} (h : Only (OwnX k b) w w') (hb : w.heap.size ≤ b) : Only (Own k) w w' :=
  h.mono fun i hi e => e.elim id (fun e => by omega)

set_option maxRecDepth 100000 in
set_option maxHeartbeats 2000000 in
theorem wstep_done {k : Blks} {s : St} (x : Walk) (w : World) (h : Holds k s w) (hd : x.done = true) :
    Calls Tryz.prog 30 #[.pointer (some ⟨k.bw, 0, none⟩), x.val] w fun e w' => e = .returned x.val ∧ Holds k s w' ∧ Only (Own k) w w' := by
  have Hd := Lib.hid hd
  obtain ⟨key, mode, phase, pred, curr, next, seen, found, stop, done⟩ := x
  simp only at hd
  subst hd
  go_enter Tryz.func30, Tryz.ntmps30
  go_wp2
  exact bodyPost_ret (v := Walk.val ⟨key, mode, phase, pred, curr, next, seen, found, stop, true⟩) (by simp [results, Tryz.results30, go_sem]) rfl ⟨rfl, ((h.alloc _).alloc _).alloc _, (((Only.refl _ _).alloc _).alloc _).alloc _⟩

set_option maxRecDepth 100000 in
set_option maxHeartbeats 4000000 in
theorem wstep_0 {k : Blks} {s : St} (x : Walk) (w : World) (h : Holds k s w) (hd : x.done = false) (hp : x.phase = 0) (hn : 0 ≤ x.next ∧ x.next ≤ 18446744073709551615) :
    Calls Tryz.prog 30 #[.pointer (some ⟨k.bw, 0, none⟩), x.val] w fun e w' => e = .returned (s.walkBegin x).2.val ∧ Holds k (s.walkBegin x).1 w' ∧ Only (Own k) w w' := by
  obtain ⟨key, mode, phase, pred, curr, next, seen, found, stop, done⟩ := x
  simp only at hd hp hn
  subst hd hp
  go_enter Tryz.func30, Tryz.ntmps30
  go_wp2_with fail
  have OO := h.out (Nat.le_refl _)
  have AA := fun o1 o2 => ((At.new w 74 (Walk.cells ⟨key, mode, 0, pred, curr, next, seen, found, stop, false⟩)).alloc o1).alloc o2
  have B1 := fun o1 o3 => (At.new1 w o1 74 (Walk.cells ⟨0, 0, 0, 0, 0, 0, 0, 0, false, false⟩)).alloc o3
  have O1 : Out k (w.heap.size + 1) := h.out (by omega)
  refine (wbegin_any ⟨key, mode, 0, pred, curr, next, seen, found, stop, false⟩ _ _ (((h.alloc _).alloc _).alloc _) OO (AA _ _)).mono ?_
  rintro e w2 ⟨rfl, H2, A2, O2⟩
  have B2 := (B1 _ _).only O2 (by rintro (e | e); exact O1.1 e; omega)
  have P2 : Only (Own k) w w2 := only_drop (((((Only.refl _ _).alloc _).alloc _).alloc _).trans O2) (Nat.le_refl _)
  clear B1 AA
  generalize hr : (s.walkBegin ⟨key, mode, 0, pred, curr, next, seen, found, stop, false⟩).2 = y at *
  generalize hr1 : (s.walkBegin ⟨key, mode, 0, pred, curr, next, seen, found, stop, false⟩).1 = s' at *
  have Hr := Lib.hid hr
  have Hr1 := Lib.hid hr1
  clear hr hr1 O2
  obtain ⟨⟨y0, y1, y2, y3, y4, y5, y6, y7, y8, y9⟩, _, yl⟩ := walk_facts A2
  obtain ⟨⟨z0, z1, z2, z3, z4, z5, z6, z7, z8, z9⟩, zf, zl⟩ := walk_facts B2
  go_wp2_with fail
  refine bodyPost_ret (v := y.val) (by simp [results, Tryz.results30, go_sem, z0, z1, z2, z3, z4, z5, z6, z7, z8, z9]) rfl ⟨by rw [Hr.out], ?_, ?_⟩
  · rw [Hr1.out]
    repeat (refine Holds.far ?_ O1 _ _)
    exact H2
  · repeat (refine Only.set ?_ (.inr (by simp)) _)
    exact P2

set_option maxRecDepth 100000 in
set_option maxHeartbeats 4000000 in
theorem wstep_1 {k : Blks} {s : St} (x : Walk) (w : World) (h : Holds k s w) (hd : x.done = false) (hp : x.phase = 1) (hn : 0 ≤ x.next ∧ x.next ≤ 18446744073709551615) :
    Calls Tryz.prog 30 #[.pointer (some ⟨k.bw, 0, none⟩), x.val] w fun e w' => e = .returned (s.walkPeek x).2.val ∧ Holds k (s.walkPeek x).1 w' ∧ Only (Own k) w w' := by
  obtain ⟨key, mode, phase, pred, curr, next, seen, found, stop, done⟩ := x
  simp only at hd hp hn
  subst hd hp
  go_enter Tryz.func30, Tryz.ntmps30
  go_wp2_with fail
  have OO := h.out (Nat.le_refl _)
  have AA := fun o1 o2 => ((At.new w 74 (Walk.cells ⟨key, mode, 1, pred, curr, next, seen, found, stop, false⟩)).alloc o1).alloc o2
  have B1 := fun o1 o3 => (At.new1 w o1 74 (Walk.cells ⟨0, 0, 0, 0, 0, 0, 0, 0, false, false⟩)).alloc o3
  have O1 : Out k (w.heap.size + 1) := h.out (by omega)
  refine (wpeek_any ⟨key, mode, 1, pred, curr, next, seen, found, stop, false⟩ _ _ (((h.alloc _).alloc _).alloc _) OO (AA _ _)).mono ?_
  rintro e w2 ⟨rfl, H2, A2, O2⟩
  have B2 := (B1 _ _).only O2 (by rintro (e | e); exact O1.1 e; omega)
  have P2 : Only (Own k) w w2 := only_drop (((((Only.refl _ _).alloc _).alloc _).alloc _).trans O2) (Nat.le_refl _)
  clear B1 AA
  generalize hr : (s.walkPeek ⟨key, mode, 1, pred, curr, next, seen, found, stop, false⟩).2 = y at *
  generalize hr1 : (s.walkPeek ⟨key, mode, 1, pred, curr, next, seen, found, stop, false⟩).1 = s' at *
  have Hr := Lib.hid hr
  have Hr1 := Lib.hid hr1
  clear hr hr1 O2
  obtain ⟨⟨y0, y1, y2, y3, y4, y5, y6, y7, y8, y9⟩, _, yl⟩ := walk_facts A2
  obtain ⟨⟨z0, z1, z2, z3, z4, z5, z6, z7, z8, z9⟩, zf, zl⟩ := walk_facts B2
  go_wp2_with fail
  refine bodyPost_ret (v := y.val) (by simp [results, Tryz.results30, go_sem, z0, z1, z2, z3, z4, z5, z6, z7, z8, z9]) rfl ⟨by rw [Hr.out], ?_, ?_⟩
  · rw [Hr1.out]
    repeat (refine Holds.far ?_ O1 _ _)
    exact H2
  · repeat (refine Only.set ?_ (.inr (by simp)) _)
    exact P2

set_option maxRecDepth 100000 in
set_option maxHeartbeats 4000000 in
theorem wstep_2 {k : Blks} {s : St} (x : Walk) (w : World) (h : Holds k s w) (hd : x.done = false) (hp : x.phase = 2) (hn : 0 ≤ x.next ∧ x.next ≤ 18446744073709551615) :
    Calls Tryz.prog 30 #[.pointer (some ⟨k.bw, 0, none⟩), x.val] w fun e w' => e = .returned (s.walkUnlink x).2.val ∧ Holds k (s.walkUnlink x).1 w' ∧ Only (Own k) w w' := by
  obtain ⟨key, mode, phase, pred, curr, next, seen, found, stop, done⟩ := x
  simp only at hd hp hn
  subst hd hp
  go_enter Tryz.func30, Tryz.ntmps30
  go_wp2_with fail
  have OO := h.out (Nat.le_refl _)
  have AA := fun o1 o2 => ((At.new w 74 (Walk.cells ⟨key, mode, 2, pred, curr, next, seen, found, stop, false⟩)).alloc o1).alloc o2
  have B1 := fun o1 o3 => (At.new1 w o1 74 (Walk.cells ⟨0, 0, 0, 0, 0, 0, 0, 0, false, false⟩)).alloc o3
  have O1 : Out k (w.heap.size + 1) := h.out (by omega)
  refine (wunlink_any ⟨key, mode, 2, pred, curr, next, seen, found, stop, false⟩ _ _ (((h.alloc _).alloc _).alloc _) OO (AA _ _) hn).mono ?_
  rintro e w2 ⟨rfl, H2, A2, O2⟩
  have B2 := (B1 _ _).only O2 (by rintro (e | e); exact O1.1 e; omega)
  have P2 : Only (Own k) w w2 := only_drop (((((Only.refl _ _).alloc _).alloc _).alloc _).trans O2) (Nat.le_refl _)
  clear B1 AA
  generalize hr : (s.walkUnlink ⟨key, mode, 2, pred, curr, next, seen, found, stop, false⟩).2 = y at *
  generalize hr1 : (s.walkUnlink ⟨key, mode, 2, pred, curr, next, seen, found, stop, false⟩).1 = s' at *
  have Hr := Lib.hid hr
  have Hr1 := Lib.hid hr1
  clear hr hr1 O2
  obtain ⟨⟨y0, y1, y2, y3, y4, y5, y6, y7, y8, y9⟩, _, yl⟩ := walk_facts A2
  obtain ⟨⟨z0, z1, z2, z3, z4, z5, z6, z7, z8, z9⟩, zf, zl⟩ := walk_facts B2
  go_wp2_with fail
  refine bodyPost_ret (v := y.val) (by simp [results, Tryz.results30, go_sem, z0, z1, z2, z3, z4, z5, z6, z7, z8, z9]) rfl ⟨by rw [Hr.out], ?_, ?_⟩
  · rw [Hr1.out]
    repeat (refine Holds.far ?_ O1 _ _)
    exact H2
  · repeat (refine Only.set ?_ (.inr (by simp)) _)
    exact P2

set_option maxRecDepth 100000 in
set_option maxHeartbeats 4000000 in
theorem wstep_3 {k : Blks} {s : St} (x : Walk) (w : World) (h : Holds k s w) (hd : x.done = false) (hp : x.phase = 3) (hn : 0 ≤ x.next ∧ x.next ≤ 18446744073709551615) :
    Calls Tryz.prog 30 #[.pointer (some ⟨k.bw, 0, none⟩), x.val] w fun e w' => e = .returned (s.walkJudge x).2.val ∧ Holds k (s.walkJudge x).1 w' ∧ Only (Own k) w w' := by
  obtain ⟨key, mode, phase, pred, curr, next, seen, found, stop, done⟩ := x
  simp only at hd hp hn
  subst hd hp
  go_enter Tryz.func30, Tryz.ntmps30
  go_wp2_with fail
  have OO := h.out (Nat.le_refl _)
  have AA := fun o1 o2 => ((At.new w 74 (Walk.cells ⟨key, mode, 3, pred, curr, next, seen, found, stop, false⟩)).alloc o1).alloc o2
  have B1 := fun o1 o3 => (At.new1 w o1 74 (Walk.cells ⟨0, 0, 0, 0, 0, 0, 0, 0, false, false⟩)).alloc o3
  have O1 : Out k (w.heap.size + 1) := h.out (by omega)
  refine (wjudge_any ⟨key, mode, 3, pred, curr, next, seen, found, stop, false⟩ _ _ (((h.alloc _).alloc _).alloc _) OO (AA _ _) hn).mono ?_
  rintro e w2 ⟨rfl, H2, A2, O2⟩
  have B2 := (B1 _ _).only O2 (by rintro (e | e); exact O1.1 e; omega)
  have P2 : Only (Own k) w w2 := only_drop (((((Only.refl _ _).alloc _).alloc _).alloc _).trans O2) (Nat.le_refl _)
  clear B1 AA
  generalize hr : (s.walkJudge ⟨key, mode, 3, pred, curr, next, seen, found, stop, false⟩).2 = y at *
  generalize hr1 : (s.walkJudge ⟨key, mode, 3, pred, curr, next, seen, found, stop, false⟩).1 = s' at *
  have Hr := Lib.hid hr
  have Hr1 := Lib.hid hr1
  clear hr hr1 O2
  obtain ⟨⟨y0, y1, y2, y3, y4, y5, y6, y7, y8, y9⟩, _, yl⟩ := walk_facts A2
  obtain ⟨⟨z0, z1, z2, z3, z4, z5, z6, z7, z8, z9⟩, zf, zl⟩ := walk_facts B2
  go_wp2_with fail
  refine bodyPost_ret (v := y.val) (by simp [results, Tryz.results30, go_sem, z0, z1, z2, z3, z4, z5, z6, z7, z8, z9]) rfl ⟨by rw [Hr.out], ?_, ?_⟩
  · rw [Hr1.out]
    repeat (refine Holds.far ?_ O1 _ _)
    exact H2
  · repeat (refine Only.set ?_ (.inr (by simp)) _)
    exact P2

set_option maxRecDepth 100000 in
set_option maxHeartbeats 4000000 in
theorem wstep_4 {k : Blks} {s : St} (x : Walk) (w : World) (h : Holds k s w) (hd : x.done = false) (hp : x.phase = 4) (hn : 0 ≤ x.next ∧ x.next ≤ 18446744073709551615) :
    Calls Tryz.prog 30 #[.pointer (some ⟨k.bw, 0, none⟩), x.val] w fun e w' => e = .returned (s.walkMark x).2.val ∧ Holds k (s.walkMark x).1 w' ∧ Only (Own k) w w' := by
  obtain ⟨key, mode, phase, pred, curr, next, seen, found, stop, done⟩ := x
  simp only at hd hp hn
  subst hd hp
  go_enter Tryz.func30, Tryz.ntmps30
  go_wp2_with fail
  have OO := h.out (Nat.le_refl _)
  have AA := fun o1 o2 => ((At.new w 74 (Walk.cells ⟨key, mode, 4, pred, curr, next, seen, found, stop, false⟩)).alloc o1).alloc o2
  have B1 := fun o1 o3 => (At.new1 w o1 74 (Walk.cells ⟨0, 0, 0, 0, 0, 0, 0, 0, false, false⟩)).alloc o3
  have O1 : Out k (w.heap.size + 1) := h.out (by omega)
  refine (wmark_any ⟨key, mode, 4, pred, curr, next, seen, found, stop, false⟩ _ _ (((h.alloc _).alloc _).alloc _) OO (AA _ _) hn).mono ?_
  rintro e w2 ⟨rfl, H2, A2, O2⟩
  have B2 := (B1 _ _).only O2 (by rintro (e | e); exact O1.1 e; omega)
  have P2 : Only (Own k) w w2 := only_drop (((((Only.refl _ _).alloc _).alloc _).alloc _).trans O2) (Nat.le_refl _)
  clear B1 AA
  generalize hr : (s.walkMark ⟨key, mode, 4, pred, curr, next, seen, found, stop, false⟩).2 = y at *
  generalize hr1 : (s.walkMark ⟨key, mode, 4, pred, curr, next, seen, found, stop, false⟩).1 = s' at *
  have Hr := Lib.hid hr
  have Hr1 := Lib.hid hr1
  clear hr hr1 O2
  obtain ⟨⟨y0, y1, y2, y3, y4, y5, y6, y7, y8, y9⟩, _, yl⟩ := walk_facts A2
  obtain ⟨⟨z0, z1, z2, z3, z4, z5, z6, z7, z8, z9⟩, zf, zl⟩ := walk_facts B2
  go_wp2_with fail
  refine bodyPost_ret (v := y.val) (by simp [results, Tryz.results30, go_sem, z0, z1, z2, z3, z4, z5, z6, z7, z8, z9]) rfl ⟨by rw [Hr.out], ?_, ?_⟩
  · rw [Hr1.out]
    repeat (refine Holds.far ?_ O1 _ _)
    exact H2
  · repeat (refine Only.set ?_ (.inr (by simp)) _)
    exact P2

set_option maxRecDepth 100000 in
set_option maxHeartbeats 4000000 in
theorem wstep_5 {k : Blks} {s : St} (x : Walk) (w : World) (h : Holds k s w) (hd : x.done = false) (hp : x.phase = 5) (hn : 0 ≤ x.next ∧ x.next ≤ 18446744073709551615) :
    Calls Tryz.prog 30 #[.pointer (some ⟨k.bw, 0, none⟩), x.val] w fun e w' => e = .returned (s.walkAgain x).2.val ∧ Holds k (s.walkAgain x).1 w' ∧ Only (Own k) w w' := by
  obtain ⟨key, mode, phase, pred, curr, next, seen, found, stop, done⟩ := x
  simp only at hd hp hn
  subst hd hp
  go_enter Tryz.func30, Tryz.ntmps30
  go_wp2_with fail
  have OO := h.out (Nat.le_refl _)
  have AA := fun o1 o2 => ((At.new w 74 (Walk.cells ⟨key, mode, 5, pred, curr, next, seen, found, stop, false⟩)).alloc o1).alloc o2
  have B1 := fun o1 o3 => (At.new1 w o1 74 (Walk.cells ⟨0, 0, 0, 0, 0, 0, 0, 0, false, false⟩)).alloc o3
  have O1 : Out k (w.heap.size + 1) := h.out (by omega)
  refine (wagain_any ⟨key, mode, 5, pred, curr, next, seen, found, stop, false⟩ _ _ (((h.alloc _).alloc _).alloc _) OO (AA _ _)).mono ?_
  rintro e w2 ⟨rfl, H2, A2, O2⟩
  have B2 := (B1 _ _).only O2 (by rintro (e | e); exact O1.1 e; omega)
  have P2 : Only (Own k) w w2 := only_drop (((((Only.refl _ _).alloc _).alloc _).alloc _).trans O2) (Nat.le_refl _)
  clear B1 AA
  generalize hr : (s.walkAgain ⟨key, mode, 5, pred, curr, next, seen, found, stop, false⟩).2 = y at *
  generalize hr1 : (s.walkAgain ⟨key, mode, 5, pred, curr, next, seen, found, stop, false⟩).1 = s' at *
  have Hr := Lib.hid hr
  have Hr1 := Lib.hid hr1
  clear hr hr1 O2
  obtain ⟨⟨y0, y1, y2, y3, y4, y5, y6, y7, y8, y9⟩, _, yl⟩ := walk_facts A2
  obtain ⟨⟨z0, z1, z2, z3, z4, z5, z6, z7, z8, z9⟩, zf, zl⟩ := walk_facts B2
  go_wp2_with fail
  refine bodyPost_ret (v := y.val) (by simp [results, Tryz.results30, go_sem, z0, z1, z2, z3, z4, z5, z6, z7, z8, z9]) rfl ⟨by rw [Hr.out], ?_, ?_⟩
  · rw [Hr1.out]
    repeat (refine Holds.far ?_ O1 _ _)
    exact H2
  · repeat (refine Only.set ?_ (.inr (by simp)) _)
    exact P2

set_option maxRecDepth 100000 in
set_option maxHeartbeats 4000000 in
theorem wstep_6 {k : Blks} {s : St} (x : Walk) (w : World) (h : Holds k s w) (hd : x.done = false) (hp : x.phase = 6) (hn : 0 ≤ x.next ∧ x.next ≤ 18446744073709551615) :
    Calls Tryz.prog 30 #[.pointer (some ⟨k.bw, 0, none⟩), x.val] w fun e w' => e = .returned (s.walkTurn x 1).2.val ∧ Holds k (s.walkTurn x 1).1 w' ∧ Only (Own k) w w' := by
  obtain ⟨key, mode, phase, pred, curr, next, seen, found, stop, done⟩ := x
  simp only at hd hp hn
  subst hd hp
  go_enter Tryz.func30, Tryz.ntmps30
  go_wp2_with fail
  have OO := h.out (Nat.le_refl _)
  have AA := fun o1 o2 => ((At.new w 74 (Walk.cells ⟨key, mode, 6, pred, curr, next, seen, found, stop, false⟩)).alloc o1).alloc o2
  have B1 := fun o1 o3 => (At.new1 w o1 74 (Walk.cells ⟨0, 0, 0, 0, 0, 0, 0, 0, false, false⟩)).alloc o3
  have O1 : Out k (w.heap.size + 1) := h.out (by omega)
  refine (wadmit_any ⟨key, mode, 6, pred, curr, next, seen, found, stop, false⟩ _ _ (((h.alloc _).alloc _).alloc _) OO (AA _ _)).mono ?_
  rintro e w2 ⟨rfl, H2, A2, O2⟩
  have B2 := (B1 _ _).only O2 (by rintro (e | e); exact O1.1 e; omega)
  have P2 : Only (Own k) w w2 := only_drop (((((Only.refl _ _).alloc _).alloc _).alloc _).trans O2) (Nat.le_refl _)
  clear B1 AA
  generalize hr : (s.walkTurn ⟨key, mode, 6, pred, curr, next, seen, found, stop, false⟩ 1).2 = y at *
  generalize hr1 : (s.walkTurn ⟨key, mode, 6, pred, curr, next, seen, found, stop, false⟩ 1).1 = s' at *
  have Hr := Lib.hid hr
  have Hr1 := Lib.hid hr1
  clear hr hr1 O2
  obtain ⟨⟨y0, y1, y2, y3, y4, y5, y6, y7, y8, y9⟩, _, yl⟩ := walk_facts A2
  obtain ⟨⟨z0, z1, z2, z3, z4, z5, z6, z7, z8, z9⟩, zf, zl⟩ := walk_facts B2
  go_wp2_with fail
  refine bodyPost_ret (v := y.val) (by simp [results, Tryz.results30, go_sem, z0, z1, z2, z3, z4, z5, z6, z7, z8, z9]) rfl ⟨by rw [Hr.out], ?_, ?_⟩
  · rw [Hr1.out]
    repeat (refine Holds.far ?_ O1 _ _)
    exact H2
  · repeat (refine Only.set ?_ (.inr (by simp)) _)
    exact P2

set_option maxRecDepth 100000 in
set_option maxHeartbeats 4000000 in
theorem wstep_7 {k : Blks} {s : St} (x : Walk) (w : World) (h : Holds k s w) (hd : x.done = false) (hp : x.phase = 7) (hn : 0 ≤ x.next ∧ x.next ≤ 18446744073709551615) :
    Calls Tryz.prog 30 #[.pointer (some ⟨k.bw, 0, none⟩), x.val] w fun e w' => e = .returned (s.walkTurn x 2).2.val ∧ Holds k (s.walkTurn x 2).1 w' ∧ Only (Own k) w w' := by
  obtain ⟨key, mode, phase, pred, curr, next, seen, found, stop, done⟩ := x
  simp only at hd hp hn
  subst hd hp
  go_enter Tryz.func30, Tryz.ntmps30
  go_wp2_with fail
  have OO := h.out (Nat.le_refl _)
  have AA := fun o1 o2 => ((At.new w 74 (Walk.cells ⟨key, mode, 7, pred, curr, next, seen, found, stop, false⟩)).alloc o1).alloc o2
  have B1 := fun o1 o3 => (At.new1 w o1 74 (Walk.cells ⟨0, 0, 0, 0, 0, 0, 0, 0, false, false⟩)).alloc o3
  have O1 : Out k (w.heap.size + 1) := h.out (by omega)
  refine (wrefuse_any ⟨key, mode, 7, pred, curr, next, seen, found, stop, false⟩ _ _ (((h.alloc _).alloc _).alloc _) OO (AA _ _)).mono ?_
  rintro e w2 ⟨rfl, H2, A2, O2⟩
  have B2 := (B1 _ _).only O2 (by rintro (e | e); exact O1.1 e; omega)
  have P2 : Only (Own k) w w2 := only_drop (((((Only.refl _ _).alloc _).alloc _).alloc _).trans O2) (Nat.le_refl _)
  clear B1 AA
  generalize hr : (s.walkTurn ⟨key, mode, 7, pred, curr, next, seen, found, stop, false⟩ 2).2 = y at *
  generalize hr1 : (s.walkTurn ⟨key, mode, 7, pred, curr, next, seen, found, stop, false⟩ 2).1 = s' at *
  have Hr := Lib.hid hr
  have Hr1 := Lib.hid hr1
  clear hr hr1 O2
  obtain ⟨⟨y0, y1, y2, y3, y4, y5, y6, y7, y8, y9⟩, _, yl⟩ := walk_facts A2
  obtain ⟨⟨z0, z1, z2, z3, z4, z5, z6, z7, z8, z9⟩, zf, zl⟩ := walk_facts B2
  go_wp2_with fail
  refine bodyPost_ret (v := y.val) (by simp [results, Tryz.results30, go_sem, z0, z1, z2, z3, z4, z5, z6, z7, z8, z9]) rfl ⟨by rw [Hr.out], ?_, ?_⟩
  · rw [Hr1.out]
    repeat (refine Holds.far ?_ O1 _ _)
    exact H2
  · repeat (refine Only.set ?_ (.inr (by simp)) _)
    exact P2

set_option maxRecDepth 100000 in
set_option maxHeartbeats 2000000 in
theorem wstep_odd {k : Blks} {s : St} (x : Walk) (w : World) (h : Holds k s w) (hd : x.done = false) (hp : x.phase < 0 ∨ 8 ≤ x.phase) :
    Calls Tryz.prog 30 #[.pointer (some ⟨k.bw, 0, none⟩), x.val] w fun e w' => e = .returned (Walk.val { x with done := true }) ∧ Holds k s w' ∧ Only (Own k) w w' := by
  obtain ⟨key, mode, phase, pred, curr, next, seen, found, stop, done⟩ := x
  simp only at hd hp
  subst hd
  rcases hp with hp | hp
  all_goals
    go_enter Tryz.func30, Tryz.ntmps30
    go_wp2
    exact bodyPost_ret (v := Walk.val ⟨key, mode, phase, pred, curr, next, seen, found, stop, true⟩) (by simp [results, Tryz.results30, go_sem]) rfl ⟨rfl, ((h.alloc _).alloc _).alloc _, (((Only.refl _ _).alloc _).alloc _).alloc _⟩

theorem wstep_any {k : Blks} {s : St} (x : Walk) (w : World) (h : Holds k s w) (hn : 0 ≤ x.next ∧ x.next ≤ 18446744073709551615) :
    Calls Tryz.prog 30 #[.pointer (some ⟨k.bw, 0, none⟩), x.val] w fun e w' => e = .returned (s.walkStep x).2.val ∧ Holds k (s.walkStep x).1 w' ∧ Only (Own k) w w' := by
  unfold St.walkStep
  by_cases hd : x.done = true
  · rw [if_pos hd]; exact wstep_done x w h hd
  rw [if_neg hd]
  have hd' : x.done = false := by simpa using hd
  by_cases hp : x.phase < 0 ∨ 8 ≤ x.phase
  · rw [if_pos hp]; exact wstep_odd x w h hd' hp
  rw [if_neg hp]
  by_cases h0 : x.phase = 0
  · rw [if_pos h0]; exact wstep_0 x w h hd' h0 hn
  rw [if_neg h0]
  by_cases h1 : x.phase = 1
  · rw [if_pos h1]; exact wstep_1 x w h hd' h1 hn
  rw [if_neg h1]
  by_cases h2 : x.phase = 2
  · rw [if_pos h2]; exact wstep_2 x w h hd' h2 hn
  rw [if_neg h2]
  by_cases h3 : x.phase = 3
  · rw [if_pos h3]; exact wstep_3 x w h hd' h3 hn
  rw [if_neg h3]
  by_cases h4 : x.phase = 4
  · rw [if_pos h4]; exact wstep_4 x w h hd' h4 hn
  rw [if_neg h4]
  by_cases h5 : x.phase = 5
  · rw [if_pos h5]; exact wstep_5 x w h hd' h5 hn
  rw [if_neg h5]
  by_cases h6 : x.phase = 6
  · rw [if_pos h6]; exact wstep_6 x w h hd' h6 hn
  rw [if_neg h6]
  exact wstep_7 x w h hd' (by omega) hn

end Go.Proofs.YtccmjljlfgbicaaGreat
