/- A walker among others: what it may rely on, and what comes of each of its steps. Plain. -/
import Derived.Test.YtccmjljlfgbicaaOrd
namespace Go.Proofs.Ytccmjljlfgbicaa

/-- A walk, as far as it has come (as numbers). -/
structure Wk where
  key : Int
  mode : Int
  phase : Int
  pred : Int
  curr : Int
  next : Int
  seen : Int

/-- What is known of a node that was passed. -/
def Passed (v : Vw) (d : Bool) (x : Wk) (m : Int) : Prop := (x.mode = 1 → v.wd (v.op m) ≠ 0 ∧ (d = true → 1 < v.wd (v.op m) ∨ v.op m = x.seen)) ∧ (x.mode = 2 → 1 < v.wd (v.op m))
/-- A walker at a node. -/
structure WI (v : Vw) (g : Gh) (b : Int) (x : Wk) (t0 : Int) : Prop where
  kb : v.bk x.key = b
  t0T : t0 ≤ g.T
  pn : Pn v g b x.pred
  pk : g.lk x.pred → v.key x.pred ≤ x.key
  cn : Nd v g b x.curr
  ck : v.key x.curr ≤ x.key
  pc : Aft v g b x.pred x.curr
  passed : ∀ m, g.lk m → v.key m = x.key → Lt v g m x.curr → ¬ v.mkd m → Passed v g.sd x m
  nxt : x.phase ≠ 1 → Ptr v g b x.curr (x.next / 2)
  skip : x.phase ≠ 1 → x.phase ≠ 2 → (x.next / 2 = 0 ∨ x.key < v.key (x.next / 2)) → ∀ m, g.lk m → v.key m = x.key → Lt v g x.curr m → g.st m < t0 → v.mkd m
  p2 : x.phase = 2 → v.nx x.curr = x.next ∧ x.next % 2 = 1
  p3 : x.phase ≠ 1 → x.phase ≠ 2 → x.next % 2 = 0
  seen : x.mode = 1 → x.seen ≠ -1 → v.wd x.seen ≠ 0 ∧ ∃ n, g.lk n ∧ v.op n = x.seen ∧ v.key n = x.key ∧ Lt v g n x.curr
  p4 : x.phase = 4 → 1 < v.wd (v.op x.curr) ∨ (x.mode = 1 ∧ x.seen ≠ -1 ∧ v.op x.curr = x.seen)
  p5 : x.phase = 5 → x.mode = 1 ∧ x.seen ≠ -1 ∧ v.key x.curr = x.key
  p6 : x.phase = 6 → x.mode = 1 ∧ x.seen = -1 ∧ v.key x.curr = x.key
  p7 : x.phase = 7 → x.mode = 1 ∧ v.key x.curr = x.key
/-- A walk that has come to its end. -/
structure WE (v : Vw) (g : Gh) (b : Int) (x : Wk) (t0 : Int) : Prop where
  kb : v.bk x.key = b
  t0T : t0 ≤ g.T
  pn : Pn v g b x.pred
  pk : g.lk x.pred → v.key x.pred ≤ x.key
  cn : x.curr = 0 ∨ (Nd v g b x.curr ∧ x.key < v.key x.curr)
  passed : ∀ m, g.lk m → v.key m = x.key → g.lk x.pred → (m = x.pred ∨ Lt v g m x.pred) → ¬ v.mkd m → Passed v g.sd x m
  all : ∀ m, g.lk m → v.key m = x.key → g.st m < t0 → ¬ v.mkd m → Passed v g.sd x m

/-- What others may do. -/
structure Grow (v : Vw) (g : Gh) (v' : Vw) (g' : Gh) : Prop where
  nb : v'.nb = v.nb
  bk : v'.bk = v.bk
  lk : ∀ n, g.lk n → g'.lk n
  op : ∀ n, g.lk n → v'.op n = v.op n
  ky : ∀ o, v.kd o ≠ 0 → v'.ky o = v.ky o
  kd : ∀ o, v.kd o ≠ 0 → v'.kd o = v.kd o
  st : ∀ n, g.lk n → g'.st n = g.st n
  new : ∀ n, g'.lk n → ¬ g.lk n → g.T ≤ g'.st n
  T : g.T ≤ g'.T
  sd : g'.sd = g.sd
  fz : ∀ n, g.lk n → v.mkd n → v'.nx n = v.nx n
  mark : ∀ n, g'.lk n → v'.mkd n → (g.lk n ∧ v.mkd n) ∨ v'.wd (v'.op n) ≠ 0
  wd : ∀ o, v'.wd o = v.wd o ∨ (v.wd o = 0 ∧ 0 < v'.wd o) ∨ (v.wd o = 1 ∧ 2 < v'.wd o ∧ v'.kd o = 1)

section
variable {v v' v'' : Vw} {g g' g'' : Gh}
theorem Grow.refl (v : Vw) (g : Gh) : Grow v g v g := ⟨rfl, rfl, fun _ h => h, fun _ _ => rfl, fun _ _ => rfl, fun _ _ => rfl, fun _ _ => rfl, fun _ h k => (k h).elim, Int.le_refl _, rfl, fun _ _ _ => rfl, fun _ h k => .inl ⟨h, k⟩, fun _ => .inl rfl⟩
theorem Grow.over (G : Grow v g v' g') {o : Int} (h : 1 < v.wd o) : 1 < v'.wd o := by
  rcases G.wd o with k | ⟨k, _⟩ | ⟨_, k, _⟩ <;> omega
theorem Grow.some (G : Grow v g v' g') {o : Int} (h : 0 < v.wd o) : 0 < v'.wd o := by
  rcases G.wd o with k | ⟨k, _⟩ | ⟨_, k, _⟩ <;> omega
theorem Grow.trans (G : Grow v g v' g') (I' : Inv v' g') (H : Grow v' g' v'' g'') : Grow v g v'' g'' := by
  refine ⟨H.nb.trans G.nb, H.bk.trans G.bk, fun n h => H.lk n (G.lk n h), fun n h => (H.op n (G.lk n h)).trans (G.op n h), fun o h => (H.ky o (by rw [G.kd o h]; exact h)).trans (G.ky o h), fun o h => (H.kd o (by rw [G.kd o h]; exact h)).trans (G.kd o h), fun n h => (H.st n (G.lk n h)).trans (G.st n h), ?_, Int.le_trans G.T H.T, H.sd.trans G.sd, ?_, ?_, ?_⟩
  · intro n h k
    by_cases e : g'.lk n
    · rw [H.st n e]; exact G.new n e k
    · exact Int.le_trans G.T (H.new n h e)
  · intro n h k
    have h1 := G.fz n h k
    have h2 : v'.mkd n := by unfold Vw.mkd at *; rw [h1]; exact k
    exact (H.fz n (G.lk n h) h2).trans h1
  · intro n h k
    rcases H.mark n h k with ⟨a, b⟩ | a
    · rcases G.mark n a b with c | c
      · exact .inl c
      · refine .inr ?_
        have h0 := I'.wd0 (v'.op n)
        have := H.some (o := v'.op n) (by omega)
        rw [H.op n a]; omega
    · exact .inr a
  · intro o
    have hk := H.kd o
    rcases G.wd o with a | ⟨a, a'⟩ | ⟨a, a', a''⟩ <;> rcases H.wd o with b | ⟨b, b'⟩ | ⟨b, b', b''⟩
    · exact .inl (by omega)
    · exact .inr (.inl (by omega))
    · exact .inr (.inr ⟨by omega, by omega, b''⟩)
    · exact .inr (.inl (by omega))
    · exact .inr (.inl (by omega))
    · exact .inr (.inl (by omega))
    · exact .inr (.inr ⟨by omega, by omega, by rw [hk (by omega)]; exact a''⟩)
    · omega
    · omega
variable (G : Grow v g v' g')
include G
theorem Grow.mkd' {n : Int} (h : g.lk n) (k : v.mkd n) : v'.mkd n := by unfold Vw.mkd at *; rw [G.fz n h k]; exact k
theorem Grow.to' {n : Int} (h : g.lk n) (k : v.mkd n) : v'.to n = v.to n := by unfold Vw.to; rw [G.fz n h k]
theorem Grow.ovr {n : Int} (h : g.lk n) (k : 1 < v.wd (v.op n)) : 1 < v'.wd (v'.op n) := by rw [G.op n h]; exact G.over k
theorem Grow.hd {b p : Int} : Hd v' b p ↔ Hd v b p := by unfold Hd; rw [G.nb]
theorem Grow.oldP (I' : Inv v' g') {b p : Int} (hp : Pn v g b p) (h : g'.lk p) : g.lk p := by
  rcases hp with hp | hp
  · exact (I'.nothd h (G.hd.2 hp)).elim
  · exact hp.1
variable (I : Inv v g)
include I
theorem Grow.key {n : Int} (h : g.lk n) : v'.key n = v.key n := by
  show v'.ky (v'.op n) = _
  rw [G.op n h]; exact G.ky _ (by rw [I.isins n h]; decide)
theorem Grow.lt {a b : Int} (ha : g.lk a) (hb : g.lk b) : Lt v' g' a b ↔ Lt v g a b := by
  unfold Lt; rw [G.key I ha, G.key I hb, G.st a ha, G.st b hb]
theorem Grow.nd {b n : Int} (h : Nd v g b n) : Nd v' g' b n := ⟨G.lk n h.1, by rw [G.bk, G.key I h.1]; exact h.2⟩
theorem Grow.pn {b p : Int} (h : Pn v g b p) : Pn v' g' b p := h.imp G.hd.2 (G.nd I)
theorem Grow.aft {b p m : Int} (hp : Pn v g b p) (hm : g.lk m) : Aft v' g' b p m ↔ Aft v g b p m := by
  rcases hp with hp | hp
  · exact ⟨fun _ => .inl hp, fun _ => .inl (G.hd.2 hp)⟩
  · unfold Aft; rw [G.hd, G.lt I hp.1 hm]
/-- What comes new has a later stamp: it is ahead of nothing of its key. -/
theorem Grow.fresh {a m : Int} (ha : g.lk a) (hm : g'.lk m) (hk : v.key a ≤ v'.key m) (h : Lt v' g' m a) : g.lk m := by
  refine Classical.byContradiction fun hn => ?_
  have h1 := G.new m hm hn
  have h2 := I.stT a ha
  have h3 := G.st a ha
  have h4 := G.key I ha
  unfold Lt at h
  omega
theorem Grow.ptr {b p q : Int} (hp : Pn v g b p) (h : Ptr v g b p q) : Ptr v' g' b p q := by
  rcases h with h | ⟨h1, h2, h3⟩
  · exact .inl h
  · refine .inr ⟨G.nd I h1, (G.aft I hp h1.1).2 h2, fun m a1 a2 a3 a4 => ?_⟩
    rw [G.st q h1.1] at a4
    have hm : g.lk m := Classical.byContradiction fun hn => by
      have := G.new m a1 hn
      have := I.stT q h1.1
      omega
    rw [G.st m hm] at a4
    rw [G.key I hm, G.key I h1.1] at a2
    exact G.mkd' hm (h3 m hm a2 ((G.aft I hp hm).1 a3) a4)
theorem Passed.grow {d : Bool} {x : Wk} {m : Int} (hm : g.lk m) (h : Passed v d x m) : Passed v' d x m := by
  unfold Passed at *
  rw [G.op m hm]
  refine ⟨fun e => ⟨?_, fun d => ((h.1 e).2 d).imp (G.over ·) id⟩, fun e => G.over (h.2 e)⟩
  have h0 := I.wd0 (v.op m)
  have h1 := (h.1 e).1
  have := G.some (o := v.op m) (by omega)
  omega
variable (I' : Inv v' g')
include I'
/-- What a walker relies on stays so. -/
theorem WI.grow {b t0 : Int} {x : Wk} (h : WI v g b x t0) : WI v' g' b x t0 := by
  have kc := G.key I h.cn.1
  refine ⟨by rw [G.bk]; exact h.kb, Int.le_trans h.t0T G.T, G.pn I h.pn, fun hl => ?_, G.nd I h.cn, by rw [kc]; exact h.ck, (G.aft I h.pn h.cn.1).2 h.pc, ?_, fun e => G.ptr I (.inr h.cn) (h.nxt e), ?_, fun e => ?_, h.p3, ?_, ?_, ?_, ?_, ?_⟩
  · have hl' := G.oldP I' h.pn hl
    rw [G.key I hl']; exact h.pk hl'
  · intro m a1 a2 a3 a4
    have hm := G.fresh I h.cn.1 a1 (by rw [a2]; exact h.ck) a3
    rw [G.key I hm] at a2
    rw [G.sd]
    exact Passed.grow G I hm (h.passed m hm a2 ((G.lt I hm h.cn.1).1 a3) fun k => a4 (G.mkd' hm k))
  · intro e1 e2 hq m a1 a2 a3 a4
    have hm : g.lk m := Classical.byContradiction fun hn => by
      have := G.new m a1 hn
      have := h.t0T
      omega
    rw [G.st m hm] at a4
    rw [G.key I hm] at a2
    have hq' : x.next / 2 = 0 ∨ x.key < v.key (x.next / 2) := by
      rcases h.nxt e1 with k | ⟨k, _⟩
      · exact .inl k
      · rw [G.key I k.1] at hq; exact hq
    exact G.mkd' hm (h.skip e1 e2 hq' m hm a2 ((G.lt I h.cn.1 hm).1 a3) a4)
  · obtain ⟨e1, e2⟩ := h.p2 e
    have hk : v.mkd x.curr := by unfold Vw.mkd; rw [e1]; exact e2
    exact ⟨(G.fz _ h.cn.1 hk).trans e1, e2⟩
  · intro e1 e2
    obtain ⟨a, n, b1, b2, b3, b4⟩ := h.seen e1 e2
    have h0 := I.wd0 x.seen
    have := G.some (o := x.seen) (by omega)
    exact ⟨by omega, n, G.lk n b1, (G.op n b1).trans b2, (G.key I b1).trans b3, (G.lt I b1 h.cn.1).2 b4⟩
  · intro e; rw [G.op _ h.cn.1]; exact (h.p4 e).imp (G.over ·) id
  · intro e; rw [kc]; exact h.p5 e
  · intro e; rw [kc]; exact h.p6 e
  · intro e; rw [kc]; exact h.p7 e
theorem WE.grow {b t0 : Int} {x : Wk} (h : WE v g b x t0) : WE v' g' b x t0 := by
  refine ⟨by rw [G.bk]; exact h.kb, Int.le_trans h.t0T G.T, G.pn I h.pn, fun hl => ?_, ?_, ?_, ?_⟩
  · have hl' := G.oldP I' h.pn hl
    rw [G.key I hl']; exact h.pk hl'
  · rcases h.cn with k | ⟨k1, k2⟩
    · exact .inl k
    · exact .inr ⟨G.nd I k1, by rw [G.key I k1.1]; exact k2⟩
  · intro m a1 a2 a3 a4 a5
    have hp := G.oldP I' h.pn a3
    have hm : g.lk m := by
      rcases a4 with rfl | a4
      · exact hp
      · exact G.fresh I hp a1 (by rw [a2]; exact h.pk hp) a4
    rw [G.key I hm] at a2
    rw [G.sd]
    exact Passed.grow G I hm (h.passed m hm a2 hp (a4.imp id (G.lt I hm hp).1) fun k => a5 (G.mkd' hm k))
  · intro m a1 a2 a3 a4
    have hm : g.lk m := Classical.byContradiction fun hn => by
      have := G.new m a1 hn
      have := h.t0T
      omega
    rw [G.st m hm] at a3
    rw [G.key I hm] at a2
    rw [G.sd]
    exact Passed.grow G I hm (h.all m hm a2 a3 fun k => a4 (G.mkd' hm k))
end
end Go.Proofs.Ytccmjljlfgbicaa
