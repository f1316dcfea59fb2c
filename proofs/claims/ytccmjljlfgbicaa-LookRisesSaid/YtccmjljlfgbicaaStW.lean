/- A walk's step among others. -/
import Derived.Test.YtccmjljlfgbicaaView
namespace Go.Proofs.Ytccmjljlfgbicaa
open Go.ChangeShapes Go.WideShapes Go.ChangeAt Go.RowKit

theorem ops_eq {c : Conf} (h : c.may = true) : c.ops = c.threads * c.calls ∧ c.nodes = 1 + c.buckets + 2 * (c.threads * c.calls) := by
  unfold Conf.nodes Conf.ops
  rw [if_pos h]
  simp [h]
theorem op_range {s : St} (hok : s.ok) {o : Int} (h : (s.call o).kind ≠ 0) : 0 ≤ o ∧ o < s.c.ops := by
  have hsome : ∃ c, s.callOf o = some c := by
    cases hc : s.callOf o with
    | some c => exact ⟨c, rfl⟩
    | none => exfalso; apply h; unfold St.call; rw [hc]; rfl
  obtain ⟨c, hc⟩ := hsome
  obtain ⟨_, i, t, ht, l1, l2⟩ := hok.ops _ (look1_mem hc)
  simp only [] at l1 l2
  have ct := hok.counts t (List.mem_of_getElem? ht)
  have hi : (i : Int) < s.c.threads := by rw [← hok.thr]; have := (List.getElem?_eq_some_iff.1 ht).1; omega
  have hm := may_bounds hok.may
  rw [(ops_eq hok.may).1]
  have h0 : (0 : Int) ≤ i * s.c.calls := Int.mul_nonneg (by omega) (by omega)
  have h1 : ((i : Int) + 1) * s.c.calls ≤ s.c.threads * s.c.calls := Int.mul_le_mul_of_nonneg_right (by omega) (by omega)
  rw [Int.add_mul] at h1
  omega
theorem node_range {s : St} (hok : s.ok) {n : Int} (h : (s.call (s.carried n)).kind ≠ 0) : s.c.buckets < n ∧ n < s.c.nodes := by
  have h0 := op_range hok h
  have hsome : ∃ o, look1 s.nodes n = some o := by
    cases hc : look1 s.nodes n with
    | some c => exact ⟨c, rfl⟩
    | none => exfalso; unfold St.carried at h0; rw [hc] at h0; have : (0 : Int) ≤ -1 := h0.1; omega
  obtain ⟨o, ho⟩ := hsome
  obtain ⟨i, t, ht, l1, l2⟩ := hok.nodes _ (look1_mem ho)
  simp only [] at l1 l2
  have ct := hok.counts t (List.mem_of_getElem? ht)
  have hi : (i : Int) < s.c.threads := by rw [← hok.thr]; have := (List.getElem?_eq_some_iff.1 ht).1; omega
  have hm := may_bounds hok.may
  rw [(ops_eq hok.may).2]
  have h0 : (0 : Int) ≤ i * (2 * s.c.calls) := Int.mul_nonneg (by omega) (by omega)
  have h1 : ((i : Int) + 1) * (2 * s.c.calls) ≤ s.c.threads * (2 * s.c.calls) := Int.mul_le_mul_of_nonneg_right (by omega) (by omega)
  rw [Int.add_mul] at h1
  have h2 : s.c.threads * (2 * s.c.calls) = 2 * (s.c.threads * s.c.calls) := by rw [Int.mul_left_comm]
  omega

section
variable {s : St} {g : Gh} (hok : s.ok) (I : Inv s.vw g)
include hok I
theorem lk_range {n : Int} (h : g.lk n) : s.c.buckets < n ∧ n < s.c.nodes ∧ 0 ≤ s.carried n ∧ s.carried n < s.c.ops ∧ s.nextAt n = n ∧ s.wordAt (s.carried n) = s.c.nodes + s.carried n := by
  have h1 : (s.call (s.carried n)).kind = 1 := I.isins n h
  have h2 := node_range hok (n := n) (by omega)
  have h3 := op_range hok (o := s.carried n) (by omega)
  have hm := may_bounds hok.may
  have hb := nodes_len hok
  exact ⟨h2.1, h2.2, h3.1, h3.2, nextAt_in (by omega) h2.2, wordAt_in h3.1 h3.2⟩
theorem pn_range {b p : Int} (h : Pn s.vw g b p) : 0 < p ∧ p < s.c.nodes ∧ s.nextAt p = p := by
  have hm := may_bounds hok.may
  have he := (ops_eq hok.may).2
  have hops : 0 ≤ s.c.threads * s.c.calls := Int.mul_nonneg (by omega) (by omega)
  rcases h with ⟨h1, h2, h3⟩ | h
  · have h3' : b < s.c.buckets := h3
    exact ⟨by omega, by omega, nextAt_in (by omega) (by omega)⟩
  · have := lk_range hok I h.1
    exact ⟨by omega, by omega, this.2.2.2.2.1⟩
end

theorem swaps_at {s : St} {p old : Int} (h0 : 0 ≤ p) (h1 : p < (s.words.length : Int)) : s.swaps p old = decide (s.peek p = old) := by
  cases h : s.swaps p old with
  | true => exact (decide_eq_true ((swaps_iff s p old).1 h).2).symm
  | false =>
    refine (decide_eq_false fun e => ?_).symm
    rw [(swaps_iff s p old).2 ⟨⟨h0, h1⟩, e⟩] at h; cases h

theorem came_wst {s s' : St} {g : Gh} {x : Walk} {t0 n : Int} (hkey : ∀ n, s.key n = s'.key n) (hd : x.done = false) (hs : x.stop = false) (h : Came s'.vw g (s'.bof x.key) { x.wk with curr := n, phase := 1 } t0) : Wst s' g (s.arrive x n) t0 := by
  unfold St.arrive
  rcases h with ⟨h1, h2⟩ | ⟨h1, h2⟩
  · have h1' : n = 0 ∨ x.key < s.key n := by rw [hkey]; exact h1
    rw [if_pos h1']
    exact .end_ rfl hs ⟨h2.kb, h2.t0T, h2.pn, h2.pk, h2.cn, h2.passed, h2.all⟩
  · have h1' : ¬ (n = 0 ∨ x.key < s.key n) := by rw [hkey]; exact h1
    rw [if_neg h1']
    exact .at_ hd (by show (1 : Int) ≤ 1 ∧ (1 : Int) ≤ 7; omega) h2

theorem Wst.same {s s' : St} {g : Gh} {x : Walk} {t0 : Int} (h : Wst s g x t0) (hv : s'.vw = s.vw) : Wst s' g x t0 := by
  have hb : s'.bof x.key = s.bof x.key := congrFun (congrArg Vw.bk hv) x.key
  cases h with
  | ahead a b => exact .ahead a b
  | at_ a b c => exact .at_ a b (by rw [hb, hv]; exact c)
  | end_ a b c => exact .end_ a b (by rw [hb, hv]; exact c)
  | stop a b c => exact .stop a b c

/-- A walk's step: all is as it may be, and so is the walk. -/
theorem walk_inv {s : St} {g : Gh} {x : Walk} {t0 : Int} (hok : s.ok) (I : Inv s.vw g) (hst : x.stop = true → x.done = true) (ht : t0 ≤ g.T) (hW : Wst s g x t0) :
    ∃ t1, t0 ≤ t1 ∧ t1 ≤ g.T ∧ Inv (s.walkStep x).1.vw g ∧ Grow s.vw g (s.walkStep x).1.vw g ∧ Wst (s.walkStep x).1 g (s.walkStep x).2 t1 := by
  have hl := nodes_len hok
  have hmb := may_bounds hok.may
  have nstop : x.done = false → x.stop = false := fun e => by
    cases h : x.stop with
    | false => rfl
    | true => rw [hst h] at e; cases e
  cases hW with
  | end_ hd hs h =>
    have e : s.walkStep x = (s, x) := by unfold St.walkStep; rw [if_pos hd]
    rw [e]; exact ⟨t0, Int.le_refl _, ht, I, Grow.refl _ _, .end_ hd hs h⟩
  | stop hd hs hm =>
    have e : s.walkStep x = (s, x) := by unfold St.walkStep; rw [if_pos hd]
    rw [e]; exact ⟨t0, Int.le_refl _, ht, I, Grow.refl _ _, .stop hd hs hm⟩
  | ahead hd hp =>
    have e : s.walkStep x = s.walkBegin x := by unfold St.walkStep; rw [if_neg (by rw [hd]; decide), if_neg (by omega), if_pos hp]
    rw [e]
    have hbr := bof_range hok.may x.key
    have hh := head_eq hok.may x.key
    refine ⟨g.T, ht, Int.le_refl _, I, Grow.refl _ _, ?_⟩
    refine (came_wst (s := s) (s' := s.load _) (x := { x with pred := s.head x.key, seen := -1 }) (fun _ => rfl) hd (nstop hd) ?_ : Wst (s.walkBegin x).1 g (s.walkBegin x).2 g.T)
    exact wk_begin I hbr rfl hh (by show _ = s.peek (s.nextAt (1 + s.bof x.key)) / 2; rw [← hh]) rfl rfl
  | at_ hd hp h =>
    have hpr := pn_range hok I h.pn
    have hcr := lk_range hok I (n := x.curr) h.cn.1
    have hnb := nodes_bounds hok.may
    have wk1 : x.wk.phase = x.phase := rfl
    have wk2 : x.wk.curr = x.curr := rfl
    have wk3 : x.wk.next = x.next := rfl
    have wk4 : x.wk.seen = x.seen := rfl
    have wk5 : x.wk.mode = x.mode := rfl
    have wk6 : x.wk.key = x.key := rfl
    have hxs := nstop hd
    unfold St.walkStep
    rw [if_neg (by rw [hd]; decide), if_neg (by omega), if_neg (by omega)]
    have stay : ∀ y : Walk, y.done = false → (1 ≤ y.phase ∧ y.phase ≤ 7) → WI s.vw g (s.bof y.key) y.wk t0 → ∀ p, ∃ t1, t0 ≤ t1 ∧ t1 ≤ g.T ∧ Inv (s.load p).vw g ∧ Grow s.vw g (s.load p).vw g ∧ Wst (s.load p) g y t1 :=
      fun y a b c p => ⟨t0, Int.le_refl _, ht, I, Grow.refl _ _, .at_ a b c⟩
    by_cases h1 : x.phase = 1
    · rw [if_pos h1]
      unfold St.walkPeek
      refine stay { x with next := s.peek (s.nextAt x.curr), phase := if s.peek (s.nextAt x.curr) % 2 == 1 then 2 else 3 } hd ?_ ?_ _
      · show (1 : Int) ≤ (if s.peek (s.nextAt x.curr) % 2 == 1 then 2 else 3) ∧ (if s.peek (s.nextAt x.curr) % 2 == 1 then 2 else 3) ≤ (7 : Int)
        split <;> omega
      · refine wk_peek I h (r := s.peek (s.nextAt x.curr)) rfl ?_
        by_cases ho : s.peek (s.nextAt x.curr) % 2 = 1
        · rw [if_pos (by simpa using ho)]; exact .inl ⟨rfl, ho⟩
        · rw [if_neg (by simpa using ho)]; exact .inr ⟨rfl, by omega⟩
    rw [if_neg h1]
    by_cases h2 : x.phase = 2
    · rw [if_pos h2]
      unfold St.walkUnlink
      rw [refOf_in (n := x.curr) (m := false) (by omega)]
      have hb2 : b2i false = 0 := rfl
      rw [hb2, Int.add_zero]
      cases hsw : s.swaps (s.nextAt x.pred) (2 * x.curr) with
      | false =>
        refine ⟨t0, Int.le_refl _, ht, ?_⟩
        rw [vw_swap_no hsw]
        exact ⟨I, Grow.refl _ _, .ahead hd rfl⟩
      | true =>
        have hpk : s.vw.nx x.pred = 2 * x.curr := ((swaps_iff _ _ _).1 hsw).2
        obtain ⟨e1, e2⟩ := h.p2 h2
        have e1' : s.peek (s.nextAt x.curr) = x.next := e1
        have hq : 0 ≤ x.next / 2 ∧ x.next / 2 ≤ 2147483647 := by
          rcases h.nxt (by omega) with k | ⟨k, _⟩
          · have k' : x.next / 2 = 0 := k
            omega
          · have := lk_range hok I k.1
            have k' : x.next / 2 < s.c.nodes := this.2.1
            have k2 : s.c.buckets < x.next / 2 := this.1
            omega
        rw [refOf_in (n := x.next / 2) (m := false) hq, hb2, Int.add_zero]
        obtain ⟨I', G, hC⟩ := wk_unlink I h h2 hpk
        have hv := vw_swap_next (x := 2 * (x.next / 2)) hsw
        refine ⟨t0, Int.le_refl _, ht, ?_⟩
        dsimp only
        rw [hv]
        refine ⟨I', G, ?_⟩
        rw [if_pos rfl]
        refine came_wst (s := s) (x := x) (fun _ => rfl) hd hxs ?_
        rw [hv]; exact hC
    rw [if_neg h2]
    by_cases h3 : x.phase = 3
    · rw [if_pos h3]
      unfold St.walkJudge
      have hw0 := I.wd0 (s.carried x.curr)
      have adv : ∀ sn : Int, (s.vw.key x.curr = x.key → Passed s.vw g.sd { x.wk with seen := sn } x.curr) → (∀ m, g.lk m → s.vw.key m = x.key → Lt s.vw g m x.curr → ¬ s.vw.mkd m → Passed s.vw g.sd { x.wk with seen := sn } m) →
          (x.mode = 1 → sn ≠ -1 → s.vw.wd sn ≠ 0 ∧ ∃ n, g.lk n ∧ s.vw.op n = sn ∧ s.vw.key n = x.key ∧ (n = x.curr ∨ Lt s.vw g n x.curr)) → Wst (s.load (s.wordAt (s.carried x.curr))) g (s.advance { x with seen := sn }) t0 := by
        intro sn a b c
        unfold St.advance
        exact came_wst (s := s) (s' := s.load _) (x := { x with seen := sn, pred := x.curr }) (fun _ => rfl) hd hxs (wk_adv I h h3 a b c)
      have adv0 : (s.vw.key x.curr = x.key → Passed s.vw g.sd x.wk x.curr) → Wst (s.load (s.wordAt (s.carried x.curr))) g (s.advance x) t0 := fun a =>
        adv x.seen a h.passed fun a b => by
          obtain ⟨k1, n, k2, k3, k4, k5⟩ := h.seen a b
          exact ⟨k1, n, k2, k3, k4, .inr k5⟩
      have ph : ∀ p : Int, p ≠ 2 → (1 ≤ p ∧ p ≤ 7) → (p = 4 → 1 < s.vw.wd (s.carried x.curr) ∨ (x.mode = 1 ∧ x.seen ≠ -1 ∧ s.carried x.curr = x.seen)) → (p = 5 → x.mode = 1 ∧ x.seen ≠ -1 ∧ s.key x.curr = x.key) →
          (p = 6 → x.mode = 1 ∧ x.seen = -1 ∧ s.key x.curr = x.key) → (p = 7 → x.mode = 1 ∧ s.key x.curr = x.key) → Wst (s.load (s.wordAt (s.carried x.curr))) g { x with phase := p } t0 := by
        intro p a1 a2 a3 a4 a5 a6
        exact .at_ hd a2 (h.turn h1 h2 a1 a3 a4 a5 a6)
      refine ⟨t0, Int.le_refl _, ht, I, Grow.refl _ _, ?_⟩
      have hw0' : 0 ≤ s.peek (s.wordAt (s.carried x.curr)) := hw0
      unfold St.judged
      split
      · rename_i hv
        exact ph 4 (by omega) (by omega) (fun _ => .inl hv) (fun e => by omega) (fun e => by omega) (fun e => by omega)
      rename_i hv
      split
      · rename_i hne
        exact adv0 fun e => (hne e).elim
      rename_i hne
      have hkk : s.key x.curr = x.key := Decidable.not_not.1 hne
      split
      · rename_i hm
        exact .stop rfl rfl hm
      rename_i hm
      split
      · rename_i hm1
        split
        · rename_i h0
          split
          · rename_i hs
            exact ph 6 (by omega) (by omega) (fun e => by omega) (fun e => by omega) (fun _ => ⟨hm1, hs, hkk⟩) (fun e => by omega)
          · rename_i hs
            exact ph 5 (by omega) (by omega) (fun e => by omega) (fun _ => ⟨hm1, hs, hkk⟩) (fun e => by omega) (fun e => by omega)
        · rename_i h0
          split
          · rename_i hs
            refine ph 4 (by omega) (by omega) (fun _ => .inr ⟨hm1, ?_, hs.symm⟩) (fun e => by omega) (fun e => by omega) (fun e => by omega)
            rw [hs]; have := hcr.2.2.1; omega
          · rename_i hs
            have hw1 : s.vw.wd (s.vw.op x.curr) = 1 := by show s.peek (s.wordAt (s.carried x.curr)) = 1; omega
            refine adv (s.carried x.curr) (fun _ => ⟨fun _ => ⟨by rw [hw1]; decide, fun _ => .inr rfl⟩, fun e => (hm e).elim⟩) (seen_next I h hm1 hkk hw1 fun e => hs e.symm) fun _ _ => ⟨?_, x.curr, h.cn.1, rfl, hkk, .inl rfl⟩
            show s.peek (s.wordAt (s.carried x.curr)) ≠ 0
            exact h0
      · rename_i hm1
        exact adv0 fun _ => ⟨fun e => (hm1 e).elim, fun e => (hm e).elim⟩
    rw [if_neg h3]
    by_cases h4 : x.phase = 4
    · rw [if_pos h4]
      unfold St.walkMark
      have he : x.next % 2 = 0 := h.p3 (by show x.phase ≠ 1; omega) (by show x.phase ≠ 2; omega)
      have hmo : markOf x.next = x.next + 1 := by unfold markOf; omega
      rw [hmo]
      cases hsw : s.swaps (s.nextAt x.curr) x.next with
      | false =>
        refine ⟨t0, Int.le_refl _, ht, ?_⟩
        rw [vw_swap_no hsw]
        refine ⟨I, Grow.refl _ _, ?_⟩
        refine (Wst.same (s := s) ?_ (vw_swap_no hsw))
        exact .at_ hd (by show (1 : Int) ≤ 1 ∧ (1 : Int) ≤ 7; omega) (wk_again h)
      | true =>
        have hpk : s.vw.nx x.curr = x.next := ((swaps_iff _ _ _).1 hsw).2
        obtain ⟨I', G, hC⟩ := wk_mark I h h4 hpk
        have hv := vw_swap_next (x := x.next + 1) hsw
        refine ⟨t0, Int.le_refl _, ht, ?_⟩
        dsimp only
        rw [hv]
        refine ⟨I', G, .at_ hd (by show (1 : Int) ≤ 1 ∧ (1 : Int) ≤ 7; omega) ?_⟩
        rw [hv]; exact hC
    rw [if_neg h4]
    by_cases h5 : x.phase = 5
    · rw [if_pos h5]
      unfold St.walkAgain
      have k5 := h.p5 h5
      by_cases hv : s.peek (s.wordAt x.seen) = 1
      · rw [if_pos (by simpa using hv)]
        refine stay { x with phase := 7 } hd (by show (1 : Int) ≤ 7 ∧ (7 : Int) ≤ 7; omega) ?_ _
        exact h.turn (p := 7) h1 h2 (by omega) (fun e => by omega) (fun e => by omega) (fun e => by omega) fun _ => ⟨k5.1, k5.2.2⟩
      · rw [if_neg (by simpa using hv)]
        refine stay { x with seen := -1, phase := 6 } hd (by show (1 : Int) ≤ 6 ∧ (6 : Int) ≤ 7; omega) ?_ _
        exact wk_clear I h h5 hv
    rw [if_neg h5]
    have turn : ∀ y : Int, (y = 1 ∧ x.phase = 6) ∨ (y = 2 ∧ x.phase = 7) → ∃ t1, t0 ≤ t1 ∧ t1 ≤ g.T ∧ Inv (s.walkTurn x y).1.vw g ∧ Grow s.vw g (s.walkTurn x y).1.vw g ∧ Wst (s.walkTurn x y).1 g (s.walkTurn x y).2 t1 := by
      intro y hy
      unfold St.walkTurn
      refine ⟨t0, Int.le_refl _, ht, ?_⟩
      have h3' : WI s.vw g (s.bof x.key) { x.wk with phase := 3 } t0 := h.turn (p := 3) h1 h2 (by omega) (fun e => by omega) (fun e => by omega) (fun e => by omega) (fun e => by omega)
      cases hsw : s.swaps (s.wordAt (s.carried x.curr)) 0 with
      | false =>
        dsimp only
        rw [vw_swap_no hsw]
        refine ⟨I, Grow.refl _ _, ?_⟩
        refine (Wst.same (s := s) ?_ (vw_swap_no hsw))
        exact .at_ hd (by show (1 : Int) ≤ 3 ∧ (3 : Int) ≤ 7; omega) h3'
      | true =>
        have hpk : s.vw.wd (s.vw.op x.curr) = 0 := ((swaps_iff _ _ _).1 hsw).2
        have hv := vw_swap_word (x := y) hok hsw
        dsimp only
        rw [hv]
        rcases hy with ⟨rfl, h6⟩ | ⟨rfl, h7⟩
        · obtain ⟨I', G, hC⟩ := wk_admit I h h6 hpk
          refine ⟨I', G, .at_ hd (by show (1 : Int) ≤ 3 ∧ (3 : Int) ≤ 7; omega) ?_⟩
          rw [hv]; exact hC
        · obtain ⟨I', G, hC⟩ := wk_refuse I h h7 hpk
          refine ⟨I', G, .at_ hd (by show (1 : Int) ≤ 3 ∧ (3 : Int) ≤ 7; omega) ?_⟩
          rw [hv]; exact hC
    by_cases h6 : x.phase = 6
    · rw [if_pos h6]; exact turn 1 (.inl ⟨rfl, h6⟩)
    · rw [if_neg h6]; exact turn 2 (.inr ⟨rfl, by omega⟩)
end Go.Proofs.Ytccmjljlfgbicaa
