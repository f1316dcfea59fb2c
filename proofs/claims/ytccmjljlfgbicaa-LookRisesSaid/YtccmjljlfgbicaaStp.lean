/- A walker's steps. Plain. -/
import Derived.Test.YtccmjljlfgbicaaWkr
namespace Go.Proofs.Ytccmjljlfgbicaa

/-- To have come to a node. -/
def Came (v : Vw) (g : Gh) (b : Int) (x : Wk) (t0 : Int) : Prop :=
  ((x.curr = 0 ∨ x.key < v.key x.curr) ∧ WE v g b x t0) ∨ (¬ (x.curr = 0 ∨ x.key < v.key x.curr) ∧ WI v g b x t0)

section
variable {v : Vw} {g : Gh} {b t0 : Int} {x : Wk}

theorem wk_begin (I : Inv v g) (hb : 0 ≤ b ∧ b < v.nb) (hk : v.bk x.key = b) (hp : x.pred = 1 + b) (hc : x.curr = v.to (1 + b)) (hs : x.seen = -1) (h1 : x.phase = 1) : Came v g b x g.T := by
  have hh : Hd v b x.pred := ⟨hp, hb.1, hb.2⟩
  have hnl : ¬ g.lk x.pred := fun h => I.nothd h hh
  have hu : ¬ v.mkd x.pred := by rw [hp]; unfold Vw.mkd; have := I.hd b hb.1 hb.2; omega
  have hto : v.to x.pred = x.curr := by rw [hp]; exact hc.symm
  have adj : ∀ m, g.lk m → v.key m = x.key → ¬ v.mkd m → x.curr ≠ 0 ∧ (x.curr = m ∨ Lt v g x.curr m) := fun m a1 a2 a3 => by
    have := I.adj (.inl hh) hu (m := m) ⟨a1, by rw [a2]; exact hk⟩ a3 (.inl hh)
    rw [hto] at this; exact this
  have hptr := I.ptr b x.pred (.inl hh)
  rw [hto] at hptr
  by_cases hd : x.curr = 0 ∨ x.key < v.key x.curr
  · refine .inl ⟨hd, hk, Int.le_refl _, .inl hh, fun h => (hnl h).elim, ?_, fun m _ _ a3 => (hnl a3).elim, ?_⟩
    · rcases hptr with h | ⟨h, _⟩
      · exact .inl h
      · rcases hd with h' | h'
        · exact .inl h'
        · exact .inr ⟨h, h'⟩
    · intro m a1 a2 _ a4
      obtain ⟨k1, k2⟩ := adj m a1 a2 a4
      have hd' := hd.resolve_left k1
      rcases k2 with rfl | k2
      · omega
      · unfold Lt at k2; omega
  · have hd1 : x.curr ≠ 0 := fun e => hd (.inl e)
    obtain ⟨n1, n2, _⟩ := hptr.resolve_left hd1
    refine .inr ⟨hd, hk, Int.le_refl _, .inl hh, fun h => (hnl h).elim, n1, by omega, n2, ?_, fun e => (e h1).elim, fun e => (e h1).elim, fun e => by omega, fun e => (e h1).elim, fun _ e => (e hs).elim, fun e => by omega, fun e => by omega, fun e => by omega, fun e => by omega⟩
    intro m a1 a2 a3 a4
    obtain ⟨_, k2⟩ := adj m a1 a2 a4
    rcases k2 with rfl | k2
    · exact a3.irrefl.elim
    · exact (a3.asymm k2).elim

theorem wk_peek (I : Inv v g) (h : WI v g b x t0) {r p : Int} (hr : r = v.nx x.curr) (hp : (p = 2 ∧ r % 2 = 1) ∨ (p = 3 ∧ r % 2 = 0)) : WI v g b { x with next := r, phase := p } t0 := by
  subst hr
  refine ⟨h.kb, h.t0T, h.pn, h.pk, h.cn, h.ck, h.pc, h.passed, fun _ => I.ptr b x.curr (.inr h.cn), ?_, fun e => ?_, fun e1 e2 => ?_, h.seen, fun e => ?_, fun e => ?_, fun e => ?_, fun e => ?_⟩
  · intro e1 e2 hq m a1 a2 a3 a4
    refine Classical.byContradiction fun hu => ?_
    have e2' : p ≠ 2 := e2
    have a2' : v.key m = x.key := a2
    have hcu : ¬ v.mkd x.curr := by unfold Vw.mkd; omega
    obtain ⟨k1, k2⟩ := I.adj (.inr h.cn) hcu (m := m) ⟨a1, by rw [a2]; exact h.kb⟩ hu (.inr a3)
    have hq' : v.to x.curr = 0 ∨ x.key < v.key (v.to x.curr) := hq
    have hq'' := hq'.resolve_left k1
    rcases k2 with k2 | k2
    · rw [k2] at hq''; omega
    · unfold Lt at k2; omega
  · have e' : p = 2 := e
    exact ⟨rfl, by show v.nx x.curr % 2 = 1; omega⟩
  · have e1' : p ≠ 1 := e1
    have e2' : p ≠ 2 := e2
    show v.nx x.curr % 2 = 0
    omega
  all_goals
    first
      | (have e' : p = 4 := e; omega)
      | (have e' : p = 5 := e; omega)
      | (have e' : p = 6 := e; omega)
      | (have e' : p = 7 := e; omega)

theorem grow_nx {p r : Int} (hu : ¬ v.mkd p) (hr : r % 2 = 1 → v.wd (v.op p) ≠ 0) : Grow v g { v with nx := upd v.nx p r } g :=
  ⟨rfl, rfl, fun _ h => h, fun _ _ => rfl, fun _ _ => rfl, fun _ _ => rfl, fun _ _ => rfl, fun _ h k => (k h).elim, Int.le_refl _, rfl, fun _ _ k => upd_ne fun e => hu (e ▸ k), fun n h k => by
    have k' : upd v.nx p r n % 2 = 1 := k
    by_cases e : n = p
    · subst e; rw [upd_eq] at k'; exact .inr (hr k')
    · rw [upd_ne e] at k'; exact .inl ⟨h, k'⟩, fun _ => .inl rfl⟩

theorem wk_unlink (I : Inv v g) (h : WI v g b x t0) (h2 : x.phase = 2) (hs : v.nx x.pred = 2 * x.curr) :
    Inv { v with nx := upd v.nx x.pred (2 * (x.next / 2)) } g ∧ Grow v g { v with nx := upd v.nx x.pred (2 * (x.next / 2)) } g ∧ Came { v with nx := upd v.nx x.pred (2 * (x.next / 2)) } g b { x with curr := x.next / 2, phase := 1 } t0 := by
  obtain ⟨e1, e2⟩ := h.p2 h2
  have hm : v.mkd x.curr := by unfold Vw.mkd; rw [e1]; exact e2
  have hto : v.to x.curr = x.next / 2 := by unfold Vw.to; rw [e1]
  have hpu : ¬ v.mkd x.pred := by unfold Vw.mkd; omega
  have I' := I.unlink h.pn hs h.cn hm
  rw [hto] at I'
  have G : Grow v g { v with nx := upd v.nx x.pred (2 * (x.next / 2)) } g := grow_nx hpu (fun e => by omega)
  refine ⟨I', G, ?_⟩
  have hptr := I.ptr b x.curr (.inr h.cn)
  rw [hto] at hptr
  have m1 : ∀ n, (Vw.mkd { v with nx := upd v.nx x.pred (2 * (x.next / 2)) } n) ↔ v.mkd n := fun n => by
    show upd v.nx x.pred (2 * (x.next / 2)) n % 2 = 1 ↔ v.nx n % 2 = 1
    unfold upd; split
    · rename_i e; subst e; omega
    · exact Iff.rfl
  have hpu' : ¬ Vw.mkd { v with nx := upd v.nx x.pred (2 * (x.next / 2)) } x.pred := fun k => hpu ((m1 _).1 k)
  have hto' : Vw.to { v with nx := upd v.nx x.pred (2 * (x.next / 2)) } x.pred = x.next / 2 := by
    show upd v.nx x.pred (2 * (x.next / 2)) x.pred / 2 = _
    rw [upd_eq]; omega
  have adj : ∀ m, g.lk m → v.key m = x.key → ¬ v.mkd m → Lt v g x.curr m → x.next / 2 ≠ 0 ∧ (x.next / 2 = m ∨ Lt v g (x.next / 2) m) := fun m a1 a2 a3 a4 => by
    have := I'.adj (p := x.pred) (b := b) h.pn hpu' (m := m) ⟨a1, by show v.bk (v.key m) = b; rw [a2]; exact h.kb⟩ (fun k => a3 ((m1 m).1 k)) (h.pc.trans a4)
    rw [hto'] at this; exact this
  by_cases hd : x.next / 2 = 0 ∨ x.key < v.key (x.next / 2)
  · refine .inl ⟨hd, h.kb, h.t0T, h.pn, h.pk, ?_, ?_, ?_⟩
    · rcases hptr with k | ⟨k, _⟩
      · exact .inl k
      · rcases hd with k' | k'
        · exact .inl k'
        · exact .inr ⟨k, k'⟩
    · intro m a1 a2 a3 a4 a5
      have hl : Lt v g m x.curr := by
        have := I.aft_lt a3 h.pc
        rcases a4 with rfl | a4
        · exact this
        · exact Lt.trans (show Lt v g m x.pred from a4) this
      exact h.passed m a1 a2 hl fun k => a5 ((m1 m).2 k)
    · intro m a1 a2 a3 a4
      have a4' : ¬ v.mkd m := fun k => a4 ((m1 m).2 k)
      rcases I.tri a1 h.cn.1 with k | rfl | k
      · exact h.passed m a1 a2 k a4'
      · exact (a4' hm).elim
      · obtain ⟨k1, k2⟩ := adj m a1 a2 a4' k
        have hd' := hd.resolve_left k1
        have a2' : v.key m = x.key := a2
        rcases k2 with k2 | k2
        · rw [k2] at hd'; omega
        · unfold Lt at k2; omega
  · have hd1 : x.next / 2 ≠ 0 := fun e => hd (.inl e)
    obtain ⟨n1, n2, n3⟩ := hptr.resolve_left hd1
    have n2' := I.aft_lt h.cn.1 n2
    have hqk : v.key (x.next / 2) ≤ x.key := by
      have : ¬ x.key < v.key (x.next / 2) := fun e => hd (.inr e)
      omega
    refine .inr ⟨hd, h.kb, h.t0T, h.pn, h.pk, n1, hqk, h.pc.trans n2', ?_, fun e => (e rfl).elim, fun e => (e rfl).elim, fun e => ?_, fun e => (e rfl).elim, ?_, fun e => ?_, fun e => ?_, fun e => ?_, fun e => ?_⟩
    · intro m a1 a2 a3 a4
      have a4' : ¬ v.mkd m := fun k => a4 ((m1 m).2 k)
      have a2' : v.key m = x.key := a2
      have a3' : Lt v g m (x.next / 2) := a3
      rcases I.tri a1 h.cn.1 with k | rfl | k
      · exact h.passed m a1 a2 k a4'
      · exact (a4' hm).elim
      · refine (a4' (n3 m a1 ?_ (.inr k) ?_)).elim
        · unfold Lt at a3'; omega
        · unfold Lt at a3'; omega
    · have e' : (1 : Int) = 2 := e
      omega
    · intro a1 a2
      obtain ⟨k1, n, k2, k3, k4, k5⟩ := h.seen a1 a2
      exact ⟨k1, n, k2, k3, k4, Lt.trans (show Lt v g n x.curr from k5) n2'⟩
    · have e' : (1 : Int) = 4 := e
      omega
    · have e' : (1 : Int) = 5 := e
      omega
    · have e' : (1 : Int) = 6 := e
      omega
    · have e' : (1 : Int) = 7 := e
      omega

/-- Another phase, at the same node. -/
theorem WI.turn (h : WI v g b x t0) (h1 : x.phase ≠ 1) (h2 : x.phase ≠ 2) {p : Int} (k2 : p ≠ 2) (k4 : p = 4 → 1 < v.wd (v.op x.curr) ∨ (x.mode = 1 ∧ x.seen ≠ -1 ∧ v.op x.curr = x.seen)) (k5 : p = 5 → x.mode = 1 ∧ x.seen ≠ -1 ∧ v.key x.curr = x.key)
    (k6 : p = 6 → x.mode = 1 ∧ x.seen = -1 ∧ v.key x.curr = x.key) (k7 : p = 7 → x.mode = 1 ∧ v.key x.curr = x.key) : WI v g b { x with phase := p } t0 :=
  ⟨h.kb, h.t0T, h.pn, h.pk, h.cn, h.ck, h.pc, h.passed, fun _ => h.nxt h1, fun _ _ => h.skip h1 h2, fun e => (k2 e).elim, fun _ _ => h.p3 h1 h2, h.seen, k4, k5, k6, k7⟩

theorem wk_adv (I : Inv v g) (h : WI v g b x t0) (h3 : x.phase = 3) {sn : Int} (hc : v.key x.curr = x.key → Passed v g.sd { x with seen := sn } x.curr)
    (hp : ∀ m, g.lk m → v.key m = x.key → Lt v g m x.curr → ¬ v.mkd m → Passed v g.sd { x with seen := sn } m)
    (hs : x.mode = 1 → sn ≠ -1 → v.wd sn ≠ 0 ∧ ∃ n, g.lk n ∧ v.op n = sn ∧ v.key n = x.key ∧ (n = x.curr ∨ Lt v g n x.curr)) :
    Came v g b { x with pred := x.curr, curr := x.next / 2, phase := 1, seen := sn } t0 := by
  have hptr := h.nxt (by omega)
  have hpass : ∀ m, g.lk m → v.key m = x.key → (m = x.curr ∨ Lt v g m x.curr) → ¬ v.mkd m → Passed v g.sd { x with seen := sn } m := by
    intro m a1 a2 a3 a4
    rcases a3 with rfl | a3
    · exact hc a2
    · exact hp m a1 a2 a3 a4
  by_cases hd : x.next / 2 = 0 ∨ x.key < v.key (x.next / 2)
  · refine .inl ⟨hd, h.kb, h.t0T, .inr h.cn, fun _ => h.ck, ?_, fun m a1 a2 _ a4 a5 => hpass m a1 a2 a4 a5, ?_⟩
    · rcases hptr with k | ⟨k, _⟩
      · exact .inl k
      · rcases hd with k' | k'
        · exact .inl k'
        · exact .inr ⟨k, k'⟩
    · intro m a1 a2 a3 a4
      rcases I.tri a1 h.cn.1 with k | k | k
      · exact hpass m a1 a2 (.inr k) a4
      · exact hpass m a1 a2 (.inl k) a4
      · exact (a4 (h.skip (by omega) (by omega) hd m a1 a2 k a3)).elim
  · have hd1 : x.next / 2 ≠ 0 := fun e => hd (.inl e)
    obtain ⟨n1, n2, n3⟩ := hptr.resolve_left hd1
    have n2' := I.aft_lt h.cn.1 n2
    have hqk : v.key (x.next / 2) ≤ x.key := by
      have : ¬ x.key < v.key (x.next / 2) := fun e => hd (.inr e)
      omega
    refine .inr ⟨hd, h.kb, h.t0T, .inr h.cn, fun _ => h.ck, n1, hqk, .inr n2', ?_, fun e => (e rfl).elim, fun e => (e rfl).elim, fun e => ?_, fun e => (e rfl).elim, ?_, fun e => ?_, fun e => ?_, fun e => ?_, fun e => ?_⟩
    · intro m a1 a2 a3 a4
      have a2' : v.key m = x.key := a2
      have a3' : Lt v g m (x.next / 2) := a3
      rcases I.tri a1 h.cn.1 with k | k | k
      · exact hpass m a1 a2 (.inr k) a4
      · exact hpass m a1 a2 (.inl k) a4
      · refine (a4 (n3 m a1 ?_ (.inr k) ?_)).elim
        · unfold Lt at a3'; omega
        · unfold Lt at a3'; omega
    · have e' : (1 : Int) = 2 := e
      omega
    · intro a1 a2
      obtain ⟨k1, n, k2, k3, k4, k5⟩ := hs a1 a2
      refine ⟨k1, n, k2, k3, k4, ?_⟩
      rcases k5 with rfl | k5
      · exact n2'
      · exact k5.trans n2'
    · have e' : (1 : Int) = 4 := e
      omega
    · have e' : (1 : Int) = 5 := e
      omega
    · have e' : (1 : Int) = 6 := e
      omega
    · have e' : (1 : Int) = 7 := e
      omega

/-- An insert that is in, and another one than the one that was seen: all ahead of it is over. -/
theorem seen_next (I : Inv v g) (h : WI v g b x t0) (hm : x.mode = 1) (hk : v.key x.curr = x.key) (hw : v.wd (v.op x.curr) = 1) (hs : v.op x.curr ≠ x.seen) :
    ∀ m, g.lk m → v.key m = x.key → Lt v g m x.curr → ¬ v.mkd m → Passed v g.sd { x with seen := v.op x.curr } m := by
  intro m a1 a2 a3 a4
  have hp := h.passed m a1 a2 a3 a4
  refine ⟨fun e => ?_, hp.2⟩
  obtain ⟨k1, k2⟩ := hp.1 e
  refine ⟨k1, fun hd => ?_⟩
  by_cases ho : v.op m = v.op x.curr
  · exact .inr ho
  obtain ⟨f, f1, f2, f3, f4, f5, f6⟩ := I.first h.cn.1
  have hfu := f6 hd (by omega)
  have hfw : v.wd (v.op f) = 1 := by rw [f2]; exact hw
  -- the first node of what is in
  by_cases hfm : g.st m < g.st f
  · exact .inl (I.fst hd m f a1 f1 (by omega) hfm hfw fun k b1 b2 => f5 k b1 (b2.trans f2))
  · exfalso
    have hlt : Lt v g f x.curr := by
      unfold Lt at a3 ⊢
      have : g.st m < g.st x.curr := by omega
      omega
    obtain ⟨_, j⟩ := (h.passed f f1 (by omega) hlt hfu).1 hm
    have j := j hd
    rw [f2] at j
    omega

theorem wk_mark (I : Inv v g) (h : WI v g b x t0) (h4 : x.phase = 4) (hs : v.nx x.curr = x.next) :
    Inv { v with nx := upd v.nx x.curr (x.next + 1) } g ∧ Grow v g { v with nx := upd v.nx x.curr (x.next + 1) } g ∧ WI { v with nx := upd v.nx x.curr (x.next + 1) } g b { x with phase := 1 } t0 := by
  have he := h.p3 (by omega) (by omega)
  have hr : 1 < v.wd (v.op x.curr) ∨ ∃ n, g.lk n ∧ v.op n = v.op x.curr ∧ g.st n < g.st x.curr := by
    refine (h.p4 h4).imp id ?_
    rintro ⟨a1, a2, a3⟩
    obtain ⟨_, n, k1, k2, k3, k4⟩ := h.seen a1 a2
    have hkk : v.key n = v.key x.curr := by show v.ky (v.op n) = v.ky (v.op x.curr); rw [k2, a3]
    refine ⟨n, k1, k2.trans a3.symm, ?_⟩
    unfold Lt at k4; omega
  have I' := I.mark h.cn (by rw [hs]; exact he) hr
  rw [hs] at I'
  have hcu : ¬ v.mkd x.curr := by unfold Vw.mkd; omega
  have G : Grow v g { v with nx := upd v.nx x.curr (x.next + 1) } g := grow_nx hcu fun _ => by
    rcases h.p4 h4 with k | ⟨a1, a2, a3⟩
    · have := I.wd0 (v.op x.curr); omega
    · rw [a3]; exact (h.seen a1 a2).1
  refine ⟨I', G, ?_⟩
  have h1 : WI v g b { x with phase := 1 } t0 := ⟨h.kb, h.t0T, h.pn, h.pk, h.cn, h.ck, h.pc, h.passed, fun e => (e rfl).elim, fun e => (e rfl).elim, fun e => by have e' : (1 : Int) = 2 := e; omega, fun e => (e rfl).elim, h.seen, fun e => by have e' : (1 : Int) = 4 := e; omega, fun e => by have e' : (1 : Int) = 5 := e; omega, fun e => by have e' : (1 : Int) = 6 := e; omega, fun e => by have e' : (1 : Int) = 7 := e; omega⟩
  exact h1.grow G I I'
theorem wk_again (h : WI v g b x t0) : WI v g b { x with phase := 1 } t0 :=
  ⟨h.kb, h.t0T, h.pn, h.pk, h.cn, h.ck, h.pc, h.passed, fun e => (e rfl).elim, fun e => (e rfl).elim, fun e => by have e' : (1 : Int) = 2 := e; omega, fun e => (e rfl).elim, h.seen, fun e => by have e' : (1 : Int) = 4 := e; omega, fun e => by have e' : (1 : Int) = 5 := e; omega, fun e => by have e' : (1 : Int) = 6 := e; omega, fun e => by have e' : (1 : Int) = 7 := e; omega⟩

theorem wk_clear (I : Inv v g) (h : WI v g b x t0) (h5 : x.phase = 5) (hw : v.wd x.seen ≠ 1) : WI v g b { x with phase := 6, seen := -1 } t0 := by
  obtain ⟨q1, q2, q3⟩ := h.p5 h5
  refine ⟨h.kb, h.t0T, h.pn, h.pk, h.cn, h.ck, h.pc, ?_, fun _ => h.nxt (by omega), fun _ _ => h.skip (by omega) (by omega), fun e => by have e' : (6 : Int) = 2 := e; omega, fun _ _ => h.p3 (by omega) (by omega), fun _ e => (e rfl).elim, fun e => by have e' : (6 : Int) = 4 := e; omega, fun e => by have e' : (6 : Int) = 5 := e; omega, fun _ => ⟨q1, rfl, q3⟩, fun e => by have e' : (6 : Int) = 7 := e; omega⟩
  intro m a1 a2 a3 a4
  have hp := h.passed m a1 a2 a3 a4
  refine ⟨fun e => ?_, hp.2⟩
  obtain ⟨k1, k2⟩ := hp.1 e
  refine ⟨k1, fun hd => .inl ?_⟩
  rcases k2 hd with k2 | k2
  · exact k2
  · rw [k2] at k1 ⊢
    have := I.wd0 x.seen
    omega

theorem grow_wd {o y : Int} (h : (v.wd o = 0 ∧ 0 < y) ∨ (v.wd o = 1 ∧ 2 < y ∧ v.kd o = 1)) : Grow v g { v with wd := upd v.wd o y } g := by
  refine ⟨rfl, rfl, fun _ h => h, fun _ _ => rfl, fun _ _ => rfl, fun _ _ => rfl, fun _ _ => rfl, fun _ h k => (k h).elim, Int.le_refl _, rfl, fun _ _ _ => rfl, fun _ h k => .inl ⟨h, k⟩, fun a => ?_⟩
  show upd v.wd o y a = v.wd a ∨ (v.wd a = 0 ∧ 0 < upd v.wd o y a) ∨ (v.wd a = 1 ∧ 2 < upd v.wd o y a ∧ v.kd a = 1)
  unfold upd
  split
  · rename_i e; subst e; exact .inr h
  · exact .inl rfl

theorem wk_admit (I : Inv v g) (h : WI v g b x t0) (h6 : x.phase = 6) (hw : v.wd (v.op x.curr) = 0) :
    Inv { v with wd := upd v.wd (v.op x.curr) 1 } g ∧ Grow v g { v with wd := upd v.wd (v.op x.curr) 1 } g ∧ WI { v with wd := upd v.wd (v.op x.curr) 1 } g b { x with phase := 3 } t0 := by
  obtain ⟨q1, q2, q3⟩ := h.p6 h6
  have I' := I.admit h.cn.1 hw (by
    intro hd n a1 a2 a3 a4
    obtain ⟨_, k⟩ := (h.passed n a1 (a2.trans q3) (.inr ⟨a2, a3⟩) a4).1 q1
    rcases k hd with k | k
    · exact k
    · have := I.opr n a1; omega)
  have G : Grow v g { v with wd := upd v.wd (v.op x.curr) 1 } g := grow_wd (.inl ⟨hw, by omega⟩)
  have h3 : WI v g b { x with phase := 3 } t0 := h.turn (by omega) (by omega) (by omega) (fun e => by omega) (fun e => by omega) (fun e => by omega) (fun e => by omega)
  exact ⟨I', G, h3.grow G I I'⟩
theorem wk_refuse (I : Inv v g) (h : WI v g b x t0) (h7 : x.phase = 7) (hw : v.wd (v.op x.curr) = 0) :
    Inv { v with wd := upd v.wd (v.op x.curr) 2 } g ∧ Grow v g { v with wd := upd v.wd (v.op x.curr) 2 } g ∧ WI { v with wd := upd v.wd (v.op x.curr) 2 } g b { x with phase := 3 } t0 := by
  have I' := I.over (o := v.op x.curr) (x := 2) (by omega)
  have G : Grow v g { v with wd := upd v.wd (v.op x.curr) 2 } g := grow_wd (.inl ⟨hw, by omega⟩)
  have h3 : WI v g b { x with phase := 3 } t0 := h.turn (by omega) (by omega) (by omega) (fun e => by omega) (fun e => by omega) (fun e => by omega) (fun e => by omega)
  exact ⟨I', G, h3.grow G I I'⟩
end
end Go.Proofs.Ytccmjljlfgbicaa
