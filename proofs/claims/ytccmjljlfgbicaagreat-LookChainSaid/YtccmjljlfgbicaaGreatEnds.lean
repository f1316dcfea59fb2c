/- A walk that nobody disturbs ends: pure steps of a world's state. -/
import Derived.Test.YtccmjljlfgbicaaGreatWalkE
namespace Go.Proofs.YtccmjljlfgbicaaGreat
open Go.ChangeShapes Go.WideShapes Go.ChangeAt Go.RowKit

/-- A node that carries an operation. -/
def Good (s : St) (n : Int) : Prop := 0 < n ∧ n < s.c.nodes ∧ 0 ≤ s.carried n ∧ s.carried n < s.c.ops
/-- The nodes behind a node. -/
def Path (s : St) : Int → List Int → Prop
  | n, [] => s.peek n / 2 = 0
  | n, a :: l => s.peek n / 2 = a ∧ a ≠ 0 ∧ Path s a l

theorem Path.congr {s s' : St} {n : Int} {l : List Int} (h : Path s n l) (he : ∀ a ∈ n :: l, s'.peek a / 2 = s.peek a / 2) : Path s' n l := by
  induction l generalizing n with
  | nil => exact (he n (.head _)).trans h
  | cons a l ih => exact ⟨(he n (.head _)).trans h.1, h.2.1, ih h.2.2 fun b hb => he b (.tail _ hb)⟩
/-- The first place alone is another one. -/
theorem Path.other {s s' : St} {n n' : Int} {l : List Int} (h : Path s n l) (hn : s'.peek n' / 2 = s.peek n / 2) (he : ∀ a ∈ l, s'.peek a / 2 = s.peek a / 2) : Path s' n' l := by
  cases l with
  | nil => exact hn.trans h
  | cons a l => exact ⟨hn.trans h.1, h.2.1, h.2.2.congr he⟩

theorem nextAt_in {s : St} {n : Int} (h0 : 0 ≤ n) (h1 : n < s.c.nodes) : s.nextAt n = n := atOr_in ⟨h0, h1⟩
theorem wordAt_in {s : St} {n : Int} (h0 : 0 ≤ n) (h1 : n < s.c.ops) : s.wordAt n = s.c.nodes + n := atOr_in ⟨h0, h1⟩
theorem tick_in {l : List Int} {p n : Int} (h0 : 0 ≤ p) (h1 : p < (l.length : Int)) : tick l p n = wrap64 (n + 1) := by
  unfold tick inL; rw [if_pos (by simpa using ⟨h0, h1⟩)]
theorem peek_swap {s : St} {p old x : Int} (h : s.swaps p old = true) (q : Int) : (s.swap p old x).peek q = if q = p then x else s.peek q := by
  unfold St.swaps swapB at h
  have hin : inL s.words p = true := by
    rw [Bool.and_eq_true] at h; exact h.1
  have hb : 0 ≤ p ∧ p < (s.words.length : Int) := by unfold inL at hin; simpa using hin
  unfold St.swap St.peek peekL swapL swapB
  rw [h]
  simp only [if_true, List.length_set]
  by_cases hq : q = p
  · subst hq
    rw [if_pos hb, if_pos rfl]
    rw [List.getD_eq_getElem?_getD, List.getElem?_set_self (by omega)]; rfl
  · rw [if_neg hq]
    by_cases hr : 0 ≤ q ∧ q < (s.words.length : Int)
    · rw [if_pos hr, if_pos hr, List.getD_eq_getElem?_getD, List.getElem?_set_ne (by omega), List.getD_eq_getElem?_getD]
    · rw [if_neg hr, if_neg hr]
theorem swaps_in {s : St} {p old : Int} (h0 : 0 ≤ p) (h1 : p < (s.words.length : Int)) (hp : s.peek p = old) : s.swaps p old = true := by
  unfold St.swaps swapB
  rw [show inL s.words p = true from by unfold inL; simpa using ⟨h0, h1⟩]
  unfold St.peek at hp
  simp [hp]

/-- What is of no more use than a number that is none, or an operation's. -/
def SeenOk (s : St) (x : Walk) : Prop := x.seen = -1 ∨ (0 ≤ x.seen ∧ x.seen < s.c.ops)

/-- A walk under way, at a node, and what is behind that. -/
structure WAt (s : St) (x : Walk) (rest : List Int) : Prop where
  go : x.done = false
  pred : 0 < x.pred ∧ x.pred < s.c.nodes
  link : s.peek x.pred = 2 * x.curr
  path : Path s x.curr rest
  nodup : (x.pred :: x.curr :: rest).Nodup
  good : ∀ a ∈ x.curr :: rest, Good s a
  seen : SeenOk s x
  phase : x.phase = 1 ∨ (x.phase = 2 ∧ x.next = s.peek x.curr ∧ x.next % 2 = 1) ∨ ((x.phase = 3 ∨ x.phase = 4) ∧ x.next = s.peek x.curr ∧ x.next % 2 = 0) ∨ ((x.phase = 5 ∧ x.seen ≠ -1 ∨ x.phase = 6 ∨ x.phase = 7) ∧ x.next = s.peek x.curr ∧ x.next % 2 = 0 ∧ s.peek (s.wordAt (s.carried x.curr)) = 0)

/-- As many steps as it takes at a node, at most. -/
def wcost (s : St) (x : Walk) : Nat :=
  if x.phase = 1 then (if s.peek x.curr % 2 = 1 then 2 else 8)
  else if x.phase = 2 then 1
  else if x.phase = 3 then (if s.peek (s.wordAt (s.carried x.curr)) = 0 then 7 else 4)
  else if x.phase = 4 then 3
  else if x.phase = 5 then 6
  else 5
/-- So many steps are left, at most. -/
def Left (s : St) (x : Walk) (b : Nat) : Prop := x.done = true ∨ ∃ rest, WAt s x rest ∧ 8 * rest.length + wcost s x ≤ b
theorem Left.mono {s : St} {x : Walk} {b b' : Nat} (h : Left s x b) (hb : b ≤ b') : Left s x b' := h.imp id fun ⟨r, h1, h2⟩ => ⟨r, h1, Nat.le_trans h2 hb⟩
theorem wcost_load (s : St) (p : Int) (x : Walk) : wcost (s.load p) x = wcost s x := rfl
theorem WAt.load {s : St} {x : Walk} {rest : List Int} (h : WAt s x rest) (p : Int) : WAt (s.load p) x rest :=
  ⟨h.go, h.pred, h.link, h.path.congr fun _ _ => rfl, h.nodup, h.good, h.seen, h.phase⟩
theorem Left.load {s : St} {x : Walk} {b : Nat} (h : Left s x b) (p : Int) : Left (s.load p) x b := h.imp id fun ⟨r, h1, h2⟩ => ⟨r, h1.load p, h2⟩

theorem arrive_left {s : St} {x : Walk} {r : List Int} (hd : x.done = false) (hp : 0 < x.pred ∧ x.pred < s.c.nodes) (hm : s.peek x.pred % 2 = 0) (hpath : Path s x.pred r) (hnd : (x.pred :: r).Nodup) (hg : ∀ a ∈ r, Good s a) (hs : SeenOk s x) : Left s (s.arrive x (s.peek x.pred / 2)) (8 * r.length) := by
  cases r with
  | nil =>
    left
    have : s.peek x.pred / 2 = 0 := hpath
    unfold St.arrive; rw [if_pos (.inl this)]
  | cons a l =>
    obtain ⟨ha, ha0, hl⟩ := hpath
    rw [ha]
    unfold St.arrive
    by_cases hk : a = 0 ∨ x.key < s.key a
    · rw [if_pos hk]; exact .inl rfl
    · rw [if_neg hk]
      refine .inr ⟨l, ⟨hd, hp, by show s.peek x.pred = 2 * a; omega, hl, hnd, hg, hs, .inl rfl⟩, ?_⟩
      unfold wcost
      rw [if_pos rfl]
      simp only [List.length_cons]
      split <;> omega

theorem wcost_le (s : St) (x : Walk) : 1 ≤ wcost s x := by
  unfold wcost
  repeat' split
  all_goals omega

theorem wcost3 {s : St} {x : Walk} (h : x.phase = 3) : wcost s x = if s.peek (s.wordAt (s.carried x.curr)) = 0 then 7 else 4 := by
  unfold wcost
  rw [if_neg (by omega), if_neg (by omega), if_pos h]

/-- A step at a node: it is one step of the world, and there are fewer left. -/
theorem left_step {s : St} {x : Walk} {rest : List Int} {b : Nat} (hok : s.ok) (h : WAt s x rest) (hb : 8 * rest.length + wcost s x ≤ b + 1) :
    (s.walkStep x).1.steps = wrap64 (s.steps + 1) ∧ Left (s.walkStep x).1 (s.walkStep x).2 b := by
  have hlen := hok.len
  have hmb := may_bounds hok.may
  have hnb := nodes_bounds hok.may
  have hob := ops_bounds s.c
  have hgc := h.good x.curr (.head _)
  obtain ⟨g0, g1, g2, g3⟩ := hgc
  have hpn : s.nextAt x.pred = x.pred := nextAt_in (by have := h.pred.1; omega) h.pred.2
  have hcn : s.nextAt x.curr = x.curr := nextAt_in (by omega) g1
  have hw : s.wordAt (s.carried x.curr) = s.c.nodes + s.carried x.curr := wordAt_in g2 g3
  have hnd := h.nodup
  obtain ⟨hp1, hnd2⟩ := List.nodup_cons.1 hnd
  obtain ⟨hc1, hnd3⟩ := List.nodup_cons.1 hnd2
  have hpc : x.pred ≠ x.curr := fun e => hp1 (by rw [e]; exact .head _)
  have hpr : x.pred ∉ rest := fun e => hp1 (.tail _ e)
  have htp : tick s.words x.pred s.steps = wrap64 (s.steps + 1) := tick_in (by have := h.pred.1; omega) (by have := h.pred.2; omega)
  have htc : tick s.words x.curr s.steps = wrap64 (s.steps + 1) := tick_in (by omega) (by omega)
  have htw : tick s.words (s.c.nodes + s.carried x.curr) s.steps = wrap64 (s.steps + 1) := tick_in (by omega) (by omega)
  unfold St.walkStep
  rw [if_neg (by rw [h.go]; decide)]
  have adv : ∀ x' : Walk, x'.done = false → x'.curr = x.curr → x'.next = s.peek x.curr → x'.next % 2 = 0 → SeenOk s x' → Left s (s.advance x') (8 * rest.length) := by
    intro x' d1 d2 d3 d4 d5
    unfold St.advance
    have := arrive_left (x := { x' with pred := x.curr }) d1 ⟨g0, g1⟩ (by show s.peek x.curr % 2 = 0; rw [← d3]; exact d4) h.path hnd2 (fun a ha => h.good a (.tail _ ha)) d5
    simp only [d2, d3] at this ⊢
    exact this
  rcases h.phase with hp | ⟨hp, hn, hm⟩ | ⟨hp | hp, hn, hm⟩ | ⟨⟨hp, hsn⟩ | hp | hp, hn, hm, hz⟩
  · -- phase 1
    rw [if_neg (by omega), if_neg (by omega), if_pos hp]
    unfold St.walkPeek
    rw [hcn]
    refine ⟨htc, .inr ⟨rest, ?_, ?_⟩⟩
    · by_cases ho : s.peek x.curr % 2 = 1
      · have e : (s.peek x.curr % 2 == 1) = true := by simpa using ho
        rw [e]
        exact ⟨h.go, h.pred, h.link, h.path.congr fun _ _ => rfl, h.nodup, h.good, h.seen, .inr (.inl ⟨rfl, rfl, ho⟩)⟩
      · have e : (s.peek x.curr % 2 == 1) = false := by simpa using ho
        rw [e]
        exact ⟨h.go, h.pred, h.link, h.path.congr fun _ _ => rfl, h.nodup, h.good, h.seen, .inr (.inr (.inl ⟨.inl rfl, rfl, by show s.peek x.curr % 2 = 0; omega⟩))⟩
    · unfold wcost at hb
      rw [if_pos hp] at hb
      by_cases ho : s.peek x.curr % 2 = 1
      · have e : (s.peek x.curr % 2 == 1) = true := by simpa using ho
        rw [e]
        rw [if_pos ho] at hb
        show 8 * rest.length + 1 ≤ b
        omega
      · have e : (s.peek x.curr % 2 == 1) = false := by simpa using ho
        rw [e]
        rw [if_neg ho] at hb
        have : wcost (s.load x.curr) { x with next := s.peek x.curr, phase := 3 } ≤ 7 := by
          rw [wcost3 rfl]
          split <;> omega
        show 8 * rest.length + wcost (s.load x.curr) { x with next := s.peek x.curr, phase := 3 } ≤ b
        omega
  · -- phase 2
    have hb' : 8 * rest.length ≤ b := by have := wcost_le s x; omega
    rw [if_neg (by omega), if_neg (by omega), if_neg (by omega), if_pos hp]
    unfold St.walkUnlink
    have hto : 0 ≤ x.next / 2 ∧ x.next / 2 ≤ 2147483647 := by
      rw [hn]
      have hpa := h.path
      cases rest with
      | nil => have : s.peek x.curr / 2 = 0 := hpa; omega
      | cons a l =>
        have ha := h.good a (.tail _ (.head _))
        have := hpa.1
        unfold Good at ha
        omega
    rw [hpn, refOf_in (by omega), refOf_in hto]
    have hsw : s.swaps x.pred (2 * x.curr + b2i false) = true := swaps_in (by have := h.pred.1; omega) (by have := h.pred.2; omega) (by rw [h.link]; simp [b2i])
    refine ⟨htp, ?_⟩
    rw [if_pos hsw]
    generalize hs' : s.swap x.pred (2 * x.curr + b2i false) (2 * (x.next / 2) + b2i false) = s'
    have hpk : ∀ q, s'.peek q = if q = x.pred then 2 * (x.next / 2) + b2i false else s.peek q := by
      intro q; rw [← hs']; exact peek_swap hsw q
    have hc' : s'.c = s.c := by rw [← hs']; rfl
    have hcar : ∀ n, s'.carried n = s.carried n := by intro n; rw [← hs']; rfl
    have hkey : ∀ n, s'.key n = s.key n := by intro n; rw [← hs']; rfl
    have hpp : s'.peek x.pred = 2 * (x.next / 2) := by rw [hpk, if_pos rfl]; simp [b2i]
    have := arrive_left (s := s') (x := x) (r := rest) h.go (by rw [hc']; exact h.pred) (by rw [hpp]; omega)
      (h.path.other (by rw [hpp, hn]; omega) (fun a ha => by rw [hpk, if_neg (by rintro rfl; exact hpr ha)]))
      (List.nodup_cons.2 ⟨hpr, hnd3⟩)
      (fun a ha => by have := h.good a (.tail _ ha); unfold Good at this ⊢; rw [hc', hcar]; exact this)
      (by have := h.seen; unfold SeenOk at this ⊢; rw [hc']; exact this)
    rw [show s'.peek x.pred / 2 = x.next / 2 by rw [hpp]; omega] at this
    have e : s.arrive x (x.next / 2) = s'.arrive x (x.next / 2) := by unfold St.arrive; rw [hkey]
    rw [e]
    exact this.mono hb'
  · -- phase 3
    rw [if_neg (by omega), if_neg (by omega), if_neg (by omega), if_neg (by omega), if_pos hp]
    unfold St.walkJudge
    rw [hw]
    refine ⟨htw, Left.load ?_ _⟩
    have hb8 : 8 * rest.length ≤ b := by have := wcost_le s x; omega
    unfold wcost at hb
    rw [if_neg (by omega), if_neg (by omega), if_pos hp, hw] at hb
    unfold St.judged
    by_cases hv : 1 < s.peek (s.c.nodes + s.carried x.curr)
    · rw [if_pos hv]
      rw [if_neg (by omega)] at hb
      exact .inr ⟨rest, ⟨h.go, h.pred, h.link, h.path, h.nodup, h.good, h.seen, .inr (.inr (.inl ⟨.inr rfl, hn, hm⟩))⟩, by show 8 * rest.length + 3 ≤ b; omega⟩
    rw [if_neg hv]
    by_cases hk : s.key x.curr ≠ x.key
    · rw [if_pos hk]; exact (adv x h.go rfl hn hm h.seen).mono hb8
    rw [if_neg hk]
    by_cases h2 : x.mode = 2
    · rw [if_pos h2]; exact .inl rfl
    rw [if_neg h2]
    by_cases h1 : x.mode = 1
    · rw [if_pos h1]
      by_cases hz : s.peek (s.c.nodes + s.carried x.curr) = 0
      · rw [if_pos hz]
        rw [if_pos hz] at hb
        by_cases hs : x.seen = -1
        · rw [if_pos hs]
          exact .inr ⟨rest, ⟨h.go, h.pred, h.link, h.path, h.nodup, h.good, h.seen, .inr (.inr (.inr ⟨.inr (.inl rfl), hn, hm, by rw [hw]; exact hz⟩))⟩, by show 8 * rest.length + 5 ≤ b; omega⟩
        · rw [if_neg hs]
          exact .inr ⟨rest, ⟨h.go, h.pred, h.link, h.path, h.nodup, h.good, h.seen, .inr (.inr (.inr ⟨.inl ⟨rfl, hs⟩, hn, hm, by rw [hw]; exact hz⟩))⟩, by show 8 * rest.length + 6 ≤ b; omega⟩
      · rw [if_neg hz]
        rw [if_neg hz] at hb
        by_cases hs : x.seen = s.carried x.curr
        · rw [if_pos hs]
          exact .inr ⟨rest, ⟨h.go, h.pred, h.link, h.path, h.nodup, h.good, h.seen, .inr (.inr (.inl ⟨.inr rfl, hn, hm⟩))⟩, by show 8 * rest.length + 3 ≤ b; omega⟩
        · rw [if_neg hs]
          exact (adv { x with seen := s.carried x.curr } h.go rfl hn hm (.inr ⟨g2, g3⟩)).mono hb8
    · rw [if_neg h1]; exact (adv x h.go rfl hn hm h.seen).mono hb8
  · -- phase 4
    rw [if_neg (by omega), if_neg (by omega), if_neg (by omega), if_neg (by omega), if_neg (by omega), if_pos hp]
    unfold St.walkMark
    rw [hcn]
    have hsw : s.swaps x.curr x.next = true := swaps_in (by omega) (by omega) hn.symm
    refine ⟨htc, ?_⟩
    generalize hs' : s.swap x.curr x.next (markOf x.next) = s'
    have hpk : ∀ q, s'.peek q = if q = x.curr then markOf x.next else s.peek q := by
      intro q; rw [← hs']; exact peek_swap hsw q
    have hc' : s'.c = s.c := by rw [← hs']; rfl
    have hcar : ∀ n, s'.carried n = s.carried n := by intro n; rw [← hs']; rfl
    have hpcur : s'.peek x.curr = markOf x.next := by rw [hpk, if_pos rfl]
    refine .inr ⟨rest, ⟨h.go, by rw [hc']; exact h.pred, by show s'.peek x.pred = _; rw [hpk, if_neg hpc]; exact h.link, ?_, h.nodup, ?_, ?_, .inl rfl⟩, ?_⟩
    · exact h.path.other (by show s'.peek x.curr / 2 = _; rw [hpcur, hn]; unfold markOf; omega) (fun a ha => by rw [hpk, if_neg (by rintro rfl; exact hc1 ha)])
    · intro a ha; have := h.good a ha; unfold Good at this ⊢; rw [hc', hcar]; exact this
    · have := h.seen; unfold SeenOk at this ⊢; rw [hc']; exact this
    · unfold wcost at hb ⊢
      rw [if_neg (by omega), if_neg (by omega), if_neg (by omega), if_pos hp] at hb
      rw [if_pos rfl]
      show 8 * rest.length + (if s'.peek x.curr % 2 = 1 then 2 else 8) ≤ b
      rw [if_pos (by rw [hpcur]; unfold markOf; omega)]
      omega
  · -- phase 5
    rw [if_neg (by omega), if_neg (by omega), if_neg (by omega), if_neg (by omega), if_neg (by omega), if_neg (by omega), if_pos hp]
    unfold St.walkAgain
    have hsr : 0 ≤ x.seen ∧ x.seen < s.c.ops := h.seen.resolve_left hsn
    rw [wordAt_in hsr.1 hsr.2]
    refine ⟨tick_in (by omega) (by omega), Left.load ?_ _⟩
    unfold wcost at hb
    rw [if_neg (by omega), if_neg (by omega), if_neg (by omega), if_neg (by omega), if_pos hp] at hb
    cases s.peek (s.c.nodes + x.seen) == 1
    · exact .inr ⟨rest, ⟨h.go, h.pred, h.link, h.path, h.nodup, h.good, .inl rfl, .inr (.inr (.inr ⟨.inr (.inl rfl), hn, hm, hz⟩))⟩, by show 8 * rest.length + 5 ≤ b; omega⟩
    · exact .inr ⟨rest, ⟨h.go, h.pred, h.link, h.path, h.nodup, h.good, h.seen, .inr (.inr (.inr ⟨.inr (.inr rfl), hn, hm, hz⟩))⟩, by show 8 * rest.length + 5 ≤ b; omega⟩
  all_goals
    have key : ∀ to : Int, to ≠ 0 → (s.walkTurn x to).1.steps = wrap64 (s.steps + 1) ∧ Left (s.walkTurn x to).1 (s.walkTurn x to).2 b := by
      intro to hto
      unfold St.walkTurn
      rw [hw] at hz ⊢
      have hsw : s.swaps (s.c.nodes + s.carried x.curr) 0 = true := swaps_in (by omega) (by omega) hz
      refine ⟨htw, ?_⟩
      generalize hs' : s.swap (s.c.nodes + s.carried x.curr) 0 to = s'
      have hpk : ∀ q, s'.peek q = if q = s.c.nodes + s.carried x.curr then to else s.peek q := by
        intro q; rw [← hs']; exact peek_swap hsw q
      have hpo : ∀ q, q < s.c.nodes → s'.peek q = s.peek q := by
        intro q hq; rw [hpk, if_neg (by omega)]
      have hc' : s'.c = s.c := by rw [← hs']; rfl
      have hcar : ∀ n, s'.carried n = s.carried n := by intro n; rw [← hs']; rfl
      have hwa : ∀ n, s'.wordAt n = s.wordAt n := by intro n; rw [← hs']; rfl
      refine .inr ⟨rest, ⟨h.go, by rw [hc']; exact h.pred, by show s'.peek x.pred = _; rw [hpo _ h.pred.2]; exact h.link, ?_, h.nodup, ?_, ?_, .inr (.inr (.inl ⟨.inl rfl, by show x.next = s'.peek x.curr; rw [hpo _ g1]; exact hn, hm⟩))⟩, ?_⟩
      · exact h.path.congr fun a ha => by rw [hpo _ (h.good a ha).2.1]
      · intro a ha; have := h.good a ha; unfold Good at this ⊢; rw [hc', hcar]; exact this
      · have := h.seen; unfold SeenOk at this ⊢; rw [hc']; exact this
      · have h3 : wcost s' { x with phase := 3 } = 4 := by
          rw [wcost3 rfl]
          show (if s'.peek (s'.wordAt (s'.carried x.curr)) = 0 then 7 else 4) = 4
          rw [hwa, hcar, hw, hpk, if_pos rfl, if_neg hto]
        have h5 : wcost s x = 5 := by
          unfold wcost
          rw [if_neg (by omega), if_neg (by omega), if_neg (by omega), if_neg (by omega), if_neg (by omega)]
        rw [h5] at hb
        show 8 * rest.length + wcost s' { x with phase := 3 } ≤ b
        rw [h3]; omega
  · rw [if_neg (by omega), if_neg (by omega), if_neg (by omega), if_neg (by omega), if_neg (by omega), if_neg (by omega), if_neg (by omega), if_pos hp]
    exact key 1 (by decide)
  · rw [if_neg (by omega), if_neg (by omega), if_neg (by omega), if_neg (by omega), if_neg (by omega), if_neg (by omega), if_neg (by omega), if_neg (by omega)]
    exact key 2 (by decide)

/-- A walk that begins. -/
theorem left_begin {s : St} {key mode : Int} {r : List Int} (hok : s.ok) (hh : 0 < s.head key ∧ s.head key < s.c.nodes) (hm : s.peek (s.head key) % 2 = 0) (hp : Path s (s.head key) r) (hnd : (s.head key :: r).Nodup) (hg : ∀ a ∈ r, Good s a) :
    (s.walkStep (Walk.new key mode)).1.steps = wrap64 (s.steps + 1) ∧ Left (s.walkStep (Walk.new key mode)).1 (s.walkStep (Walk.new key mode)).2 (8 * r.length) := by
  have hlen := hok.len
  have hob := ops_bounds s.c
  have hmb := may_bounds hok.may
  have e : s.walkStep (Walk.new key mode) = s.walkBegin (Walk.new key mode) := rfl
  rw [e]
  unfold St.walkBegin
  have hn : s.nextAt (s.head (Walk.new key mode).key) = s.head key := nextAt_in (by show 0 ≤ s.head key; omega) hh.2
  rw [hn]
  exact ⟨tick_in (by omega) (by omega), (arrive_left (x := { Walk.new key mode with pred := s.head key, seen := -1 }) rfl hh hm hp hnd hg (.inl rfl)).load _⟩

theorem arrive_next (s : St) (x : Walk) (n : Int) : (s.arrive x n).next = x.next := by unfold St.arrive; split <;> rfl
/-- What a walk holds fits, as far as it came. -/
theorem step_next {s : St} {x : Walk} (hok : s.ok) (h : 0 ≤ x.next ∧ x.next ≤ 18446744073709551615) : 0 ≤ (s.walkStep x).2.next ∧ (s.walkStep x).2.next ≤ 18446744073709551615 := by
  unfold St.walkStep
  split; · exact h
  split; · exact h
  split; · unfold St.walkBegin; rw [arrive_next]; exact h
  split; · exact peek_range hok _
  split
  · unfold St.walkUnlink
    dsimp only
    split
    · rw [arrive_next]; exact h
    · exact h
  split
  · unfold St.walkJudge St.judged St.advance
    dsimp only
    repeat' split
    all_goals first | exact h | (rw [arrive_next]; exact h)
  split; · exact h
  split
  · unfold St.walkAgain
    dsimp only
    split <;> exact h
  split <;> exact h

end Go.Proofs.YtccmjljlfgbicaaGreat
