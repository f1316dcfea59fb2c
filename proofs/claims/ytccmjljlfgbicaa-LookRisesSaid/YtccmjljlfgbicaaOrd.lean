/- Nodes in their order: what stays so, whoever takes a step. Plain: no program in sight. -/
import Derived.Test.YtccmjljlfgbicaaRows
namespace Go.Proofs.Ytccmjljlfgbicaa

/-- What can be seen of a world: references, words, what nodes carry, keys of operations, keys' buckets. -/
structure Vw where
  nb : Int
  nx : Int → Int
  wd : Int → Int
  op : Int → Int
  ky : Int → Int
  bk : Int → Int
  kd : Int → Int
/-- What was linked, and when. -/
structure Gh where
  lk : Int → Prop
  st : Int → Int
  T : Int
  sd : Bool

def upd (f : Int → Int) (n x : Int) : Int → Int := fun m => if m = n then x else f m
theorem upd_eq (f : Int → Int) (n x : Int) : upd f n x n = x := by simp [upd]
theorem upd_ne {f : Int → Int} {n x m : Int} (h : m ≠ n) : upd f n x m = f m := by simp [upd, h]

abbrev Vw.key (v : Vw) (n : Int) : Int := v.ky (v.op n)
abbrev Vw.to (v : Vw) (n : Int) : Int := v.nx n / 2
abbrev Vw.mkd (v : Vw) (n : Int) : Prop := v.nx n % 2 = 1
/-- One node is ahead of another one. -/
def Lt (v : Vw) (g : Gh) (a b : Int) : Prop := v.key a < v.key b ∨ (v.key a = v.key b ∧ g.st a < g.st b)
def Hd (v : Vw) (b p : Int) : Prop := p = 1 + b ∧ 0 ≤ b ∧ b < v.nb
def Nd (v : Vw) (g : Gh) (b n : Int) : Prop := g.lk n ∧ v.bk (v.key n) = b
def Pn (v : Vw) (g : Gh) (b p : Int) : Prop := Hd v b p ∨ Nd v g b p
def Aft (v : Vw) (g : Gh) (b p m : Int) : Prop := Hd v b p ∨ Lt v g p m
/-- A pointer as it may be: what it leaps over, of its target's key, is marked. -/
def Ptr (v : Vw) (g : Gh) (b p q : Int) : Prop :=
  q = 0 ∨ (Nd v g b q ∧ Aft v g b p q ∧ ∀ m, g.lk m → v.key m = v.key q → Aft v g b p m → g.st m < g.st q → v.mkd m)
def VPath (v : Vw) : Int → List Int → Prop
  | n, [] => v.to n = 0
  | n, a :: l => v.to n = a ∧ a ≠ 0 ∧ VPath v a l

/-- All is as it may be. -/
structure Inv (v : Vw) (g : Gh) : Prop where
  nb0 : 0 ≤ v.nb
  big : ∀ n, g.lk n → v.nb < n
  stT : ∀ n, g.lk n → g.st n < g.T
  st0 : ∀ n, g.lk n → 0 ≤ g.st n
  T0 : 0 ≤ g.T
  inj : ∀ n m, g.lk n → g.lk m → g.st n = g.st m → n = m
  bkr : ∀ n, g.lk n → 0 ≤ v.bk (v.key n) ∧ v.bk (v.key n) < v.nb
  ptr : ∀ b p, Pn v g b p → Ptr v g b p (v.to p)
  hd : ∀ b, 0 ≤ b → b < v.nb → v.nx (1 + b) % 2 = 0
  chain : ∀ b, 0 ≤ b → b < v.nb → ∃ L, VPath v (1 + b) L ∧ ∀ m, Nd v g b m → ¬ v.mkd m → m ∈ L
  dup : g.sd = true → ∀ m, g.lk m → v.mkd m → 1 < v.wd (v.op m) ∨ ∃ n, g.lk n ∧ v.op n = v.op m ∧ g.st n < g.st m
  fst : g.sd = true → ∀ n m, g.lk n → g.lk m → v.key n = v.key m → g.st n < g.st m → v.wd (v.op m) = 1 → (∀ k, g.lk k → v.op k = v.op m → g.st m ≤ g.st k) → 1 < v.wd (v.op n)
  isins : ∀ n, g.lk n → v.kd (v.op n) = 1
  opr : ∀ n, g.lk n → 0 ≤ v.op n
  wd0 : ∀ o, 0 ≤ v.wd o
  held : ∀ o, v.kd o = 1 → v.wd o = 1 → ∃ n, g.lk n ∧ v.op n = o

section
variable {v : Vw} {g : Gh}
theorem Lt.trans {a b c : Int} (h : Lt v g a b) (k : Lt v g b c) : Lt v g a c := by
  unfold Lt at *; omega
theorem Lt.irrefl {a : Int} (h : Lt v g a a) : False := by unfold Lt at h; omega
theorem Lt.asymm {a b : Int} (h : Lt v g a b) (k : Lt v g b a) : False := (h.trans k).irrefl
theorem Inv.tri (I : Inv v g) {a b : Int} (ha : g.lk a) (hb : g.lk b) : Lt v g a b ∨ a = b ∨ Lt v g b a := by
  unfold Lt
  by_cases h : g.st a = g.st b
  · exact .inr (.inl (I.inj a b ha hb h))
  · omega
theorem Inv.nothd (I : Inv v g) {b n : Int} (h : g.lk n) : ¬ Hd v b n := by
  rintro ⟨rfl, h1, h2⟩
  have := I.big _ h; omega
theorem Inv.aft_lt (I : Inv v g) {b n m : Int} (h : g.lk n) (k : Aft v g b n m) : Lt v g n m := k.resolve_left (I.nothd h)
theorem Aft.trans {b p a c : Int} (h : Aft v g b p a) (k : Lt v g a c) : Aft v g b p c := h.imp id fun h => h.trans k
theorem Pn.range (I : Inv v g) {b p : Int} (h : Pn v g b p) : 0 ≤ b ∧ b < v.nb := by
  rcases h with ⟨_, h⟩ | ⟨h, rfl⟩
  · exact h
  · exact I.bkr _ h

theorem path_facts (I : Inv v g) {b : Int} : ∀ {L : List Int} {p : Int}, Pn v g b p → VPath v p L → (∀ m ∈ L, Nd v g b m ∧ Aft v g b p m) ∧ L.Pairwise (Lt v g)
  | [], _, _, _ => ⟨fun _ h => (by cases h), .nil⟩
  | a :: l, p, hp, ⟨h1, h2, h3⟩ => by
    have hq := I.ptr b p hp
    rw [h1] at hq
    obtain ⟨n1, n2, _⟩ := hq.resolve_left h2
    obtain ⟨i1, i2⟩ := path_facts I (.inr n1) h3
    have i3 : ∀ m ∈ l, Lt v g a m := fun m hm => I.aft_lt n1.1 (i1 m hm).2
    refine ⟨?_, .cons i3 i2⟩
    intro m hm
    rcases List.mem_cons.1 hm with rfl | hm
    · exact ⟨n1, n2⟩
    · exact ⟨(i1 m hm).1, n2.trans (i3 m hm)⟩

theorem path_tail : ∀ {A : List Int} {h p : Int} {B : List Int}, VPath v h (A ++ p :: B) → VPath v p B
  | [], _, _, _, h => h.2.2
  | _ :: A, _, _, _, h => path_tail (A := A) h.2.2
theorem path_swap {v' : Vw} : ∀ {A : List Int} {h p : Int} {B B' : List Int}, VPath v h (A ++ p :: B) → (∀ a ∈ h :: A, v'.to a = v.to a) → VPath v' p B' → VPath v' h (A ++ p :: B')
  | [], _, _, _, _, h, he, k => ⟨(he _ (.head _)).trans h.1, h.2.1, k⟩
  | _ :: A, _, _, _, _, h, he, k => ⟨(he _ (.head _)).trans h.1, h.2.1, path_swap (A := A) h.2.2 (fun a ha => he a (.tail _ ha)) k⟩
theorem path_congr {v' : Vw} : ∀ {L : List Int} {p : Int}, VPath v p L → (∀ a ∈ p :: L, v'.to a = v.to a) → VPath v' p L
  | [], _, h, he => (he _ (.head _)).trans h
  | _ :: _, _, h, he => ⟨(he _ (.head _)).trans h.1, h.2.1, path_congr h.2.2 fun a ha => he a (.tail _ ha)⟩
theorem path_other {v' : Vw} {L : List Int} {p p' : Int} (h : VPath v p L) (hp : v'.to p' = v.to p) (he : ∀ a ∈ L, v'.to a = v.to a) : VPath v' p' L := by
  cases L with
  | nil => exact hp.trans h
  | cons a l => exact ⟨hp.trans h.1, h.2.1, path_congr h.2.2 he⟩

/-- What stands behind a node that can be come to, and isn't marked, is its next one, or behind that. -/
theorem Inv.adj (I : Inv v g) {b p m : Int} (hp : Pn v g b p) (hu : ¬ v.mkd p) (hm : Nd v g b m) (hmu : ¬ v.mkd m) (ha : Aft v g b p m) : v.to p ≠ 0 ∧ (v.to p = m ∨ Lt v g (v.to p) m) := by
  have hr := hp.range I
  obtain ⟨L, hL, hall⟩ := I.chain b hr.1 hr.2
  have hmL := hall m hm hmu
  have key : ∀ B, VPath v p B → m ∈ B → B.Pairwise (Lt v g) → v.to p ≠ 0 ∧ (v.to p = m ∨ Lt v g (v.to p) m) := by
    intro B hB hmB hs
    cases B with
    | nil => cases hmB
    | cons a l =>
      obtain ⟨e1, e2, _⟩ := hB
      refine ⟨by rw [e1]; exact e2, ?_⟩
      rw [e1]
      rcases List.mem_cons.1 hmB with rfl | h
      · exact .inl rfl
      · exact .inr ((List.pairwise_cons.1 hs).1 m h)
  obtain ⟨_, hs⟩ := path_facts I (.inl ⟨rfl, hr.1, hr.2⟩) hL
  rcases hp with ⟨rfl, _⟩ | hp
  · exact key L hL hmL hs
  · have hpL := hall p hp hu
    obtain ⟨A, B, rfl⟩ := List.append_of_mem hpL
    have hB := path_tail hL
    obtain ⟨_, hs2, hs3⟩ := List.pairwise_append.1 hs
    obtain ⟨hs4, hs5⟩ := List.pairwise_cons.1 hs2
    have hlt := I.aft_lt hp.1 ha
    refine key B hB ?_ hs5
    rcases List.mem_append.1 hmL with h | h
    · exact (Lt.asymm hlt (hs3 m h p (.head _))).elim
    · rcases List.mem_cons.1 h with rfl | h
      · exact hlt.irrefl.elim
      · exact h

/-- The first node of an operation. -/
theorem first_of (h0 : ∀ m, g.lk m → 0 ≤ g.st m) : ∀ (k : Nat) {n : Int}, g.lk n → g.st n < k → ∃ f, g.lk f ∧ v.op f = v.op n ∧ g.st f ≤ g.st n ∧ ∀ m, g.lk m → v.op m = v.op n → g.st f ≤ g.st m
  | 0, n, hn, hk => by have := h0 n hn; omega
  | k + 1, n, hn, hk => by
    by_cases h : ∃ m, g.lk m ∧ v.op m = v.op n ∧ g.st m < g.st n
    · obtain ⟨m, h1, h2, h3⟩ := h
      obtain ⟨f, f1, f2, f3, f4⟩ := first_of h0 k h1 (by omega)
      exact ⟨f, f1, f2.trans h2, by omega, fun m' a b => f4 m' a (b.trans h2.symm)⟩
    · refine ⟨n, hn, rfl, Int.le_refl _, fun m a b => ?_⟩
      by_cases e : g.st n ≤ g.st m
      · exact e
      · exact (h ⟨m, a, b, by omega⟩).elim
/-- The first node of an operation that isn't over isn't marked; it is no later than any other one of it. -/
theorem Inv.first (I : Inv v g) {n : Int} (hn : g.lk n) : ∃ f, g.lk f ∧ v.op f = v.op n ∧ v.key f = v.key n ∧ g.st f ≤ g.st n ∧ (∀ m, g.lk m → v.op m = v.op n → g.st f ≤ g.st m) ∧ (g.sd = true → v.wd (v.op n) ≤ 1 → ¬ v.mkd f) := by
  have h0 := I.st0 n hn
  obtain ⟨f, f1, f2, f3, f4⟩ := first_of (v := v) I.st0 (g.st n + 1).toNat hn (by omega)
  refine ⟨f, f1, f2, congrArg v.ky f2, f3, f4, fun hd hw hm => ?_⟩
  rcases I.dup hd f f1 hm with h | ⟨k, k1, k2, k3⟩
  · rw [f2] at h; omega
  · have := f4 k k1 (k2.trans f2); omega

/-- What isn't linked, nor a head, may be anything. -/
theorem Inv.congr {v' : Vw} (I : Inv v g) (e1 : v'.nb = v.nb) (e2 : ∀ n, (g.lk n ∨ (1 ≤ n ∧ n ≤ v.nb)) → v'.nx n = v.nx n) (e3 : ∀ n, g.lk n → v'.op n = v.op n)
    (e4 : ∀ n, g.lk n → v'.wd (v.op n) = v.wd (v.op n)) (e5 : ∀ n, g.lk n → v'.ky (v.op n) = v.ky (v.op n)) (e6 : v'.bk = v.bk) (e7 : ∀ n, g.lk n → v'.kd (v.op n) = 1) (e9 : ∀ o, 0 ≤ v'.wd o) (e8 : ∀ o, v'.kd o = 1 → v'.wd o = 1 → ∃ n, g.lk n ∧ v.op n = o) : Inv v' g := by
  have k1 : ∀ n, g.lk n → v'.key n = v.key n := fun n h => by show v'.ky (v'.op n) = _; rw [e3 n h, e5 n h]
  have m1 : ∀ n, g.lk n → (v'.mkd n ↔ v.mkd n) := fun n h => by unfold Vw.mkd; rw [e2 n (.inl h)]
  have w1 : ∀ n, g.lk n → v'.wd (v'.op n) = v.wd (v.op n) := fun n h => by rw [e3 n h, e4 n h]
  have l1 : ∀ a b, g.lk a → g.lk b → (Lt v' g a b ↔ Lt v g a b) := fun a b ha hb => by unfold Lt; rw [k1 a ha, k1 b hb]
  have d1 : ∀ b p, Hd v' b p ↔ Hd v b p := fun b p => by unfold Hd; rw [e1]
  have n1 : ∀ b n, Nd v' g b n ↔ Nd v g b n := fun b n => by
    unfold Nd
    constructor
    · rintro ⟨h1, h2⟩; rw [e6, k1 n h1] at h2; exact ⟨h1, h2⟩
    · rintro ⟨h1, h2⟩; exact ⟨h1, by rw [e6, k1 n h1]; exact h2⟩
  have p1 : ∀ b n, Pn v' g b n ↔ Pn v g b n := fun b n => by unfold Pn; rw [d1, n1]
  have t1 : ∀ b p, Pn v g b p → v'.to p = v.to p := fun b p hp => by
    unfold Vw.to
    rcases hp with ⟨rfl, h1, h2⟩ | ⟨h, _⟩
    · rw [e2 _ (.inr ⟨by omega, by omega⟩)]
    · rw [e2 _ (.inl h)]
  refine ⟨by rw [e1]; exact I.nb0, fun n h => by rw [e1]; exact I.big n h, I.stT, I.st0, I.T0, I.inj, fun n h => by rw [e1, e6, k1 n h]; exact I.bkr n h, ?_, ?_, ?_, ?_, ?_, ?_, fun n h => by rw [e3 n h]; exact I.opr n h, e9, ?_⟩
  · intro b p hp
    have hp' := (p1 b p).1 hp
    rw [t1 b p hp']
    rcases I.ptr b p hp' with h | ⟨h1, h2, h3⟩
    · exact .inl h
    · have aft : ∀ m, g.lk m → (Aft v' g b p m ↔ Aft v g b p m) := fun m hm => by
        unfold Aft
        rcases hp' with hh | hh
        · rw [d1]; exact ⟨fun _ => .inl hh, fun _ => .inl hh⟩
        · rw [d1, l1 p m hh.1 hm]
      refine .inr ⟨(n1 b _).2 h1, (aft _ h1.1).2 h2, fun m a b' c d => (m1 m a).2 (h3 m a ?_ ((aft m a).1 c) d)⟩
      rw [k1 m a, k1 _ h1.1] at b'; exact b'
  · intro b h1 h2
    rw [e1] at h2
    rw [e2 _ (.inr ⟨by omega, by omega⟩)]; exact I.hd b h1 h2
  · intro b h1 h2
    rw [e1] at h2
    obtain ⟨L, a, c⟩ := I.chain b h1 h2
    have hf := (path_facts I (.inl ⟨rfl, h1, h2⟩) a).1
    refine ⟨L, path_congr a ?_, fun m hm hu => c m ((n1 b m).1 hm) fun k => hu ((m1 m hm.1).2 k)⟩
    intro x hx
    rcases List.mem_cons.1 hx with rfl | hx
    · exact t1 b _ (.inl ⟨rfl, h1, h2⟩)
    · exact t1 b _ (.inr (hf x hx).1)
  · intro hd m hm hk
    rw [w1 m hm, e3 m hm]
    refine (I.dup hd m hm ((m1 m hm).1 hk)).imp id ?_
    rintro ⟨n, a, b, c⟩
    exact ⟨n, a, by rw [e3 n a]; exact b, c⟩
  · intro hd n m hn hm hk hs hw hf
    rw [w1 n hn]
    rw [k1 n hn, k1 m hm] at hk
    rw [w1 m hm] at hw
    exact I.fst hd n m hn hm hk hs hw fun k hk' he => hf k hk' (by rw [e3 k hk', e3 m hm]; exact he)
  · intro n hn; rw [e3 n hn]; exact e7 n hn
  · intro o h1 h2
    obtain ⟨n, a, b⟩ := e8 o h1 h2
    exact ⟨n, a, by rw [e3 n a]; exact b⟩

/-- A node is marked. -/
theorem Inv.mark (I : Inv v g) {b c : Int} (hc : Nd v g b c) (he : v.nx c % 2 = 0) (hr : 1 < v.wd (v.op c) ∨ ∃ n, g.lk n ∧ v.op n = v.op c ∧ g.st n < g.st c) : Inv { v with nx := upd v.nx c (v.nx c + 1) } g := by
  have t1 : ∀ n, (Vw.to { v with nx := upd v.nx c (v.nx c + 1) } n) = v.to n := fun n => by
    show upd v.nx c (v.nx c + 1) n / 2 = v.nx n / 2
    unfold upd; split
    · rename_i e; subst e; omega
    · rfl
  have m1 : ∀ n, v.mkd n → Vw.mkd { v with nx := upd v.nx c (v.nx c + 1) } n := fun n h => by
    show upd v.nx c (v.nx c + 1) n % 2 = 1
    have h' : v.nx n % 2 = 1 := h
    unfold upd; split
    · rename_i e; subst e; omega
    · exact h'
  have m2 : ∀ n, Vw.mkd { v with nx := upd v.nx c (v.nx c + 1) } n → v.mkd n ∨ n = c := fun n h => by
    by_cases e : n = c
    · exact .inr e
    · refine .inl ?_
      have h' : upd v.nx c (v.nx c + 1) n % 2 = 1 := h
      rw [upd_ne e] at h'; exact h'
  refine ⟨I.nb0, I.big, I.stT, I.st0, I.T0, I.inj, I.bkr, ?_, ?_, ?_, ?_, I.fst, I.isins, I.opr, I.wd0, I.held⟩
  · intro b' p hp
    rw [t1]
    exact (I.ptr b' p hp).imp id fun ⟨h1, h2, h3⟩ => ⟨h1, h2, fun m a b' c' d => m1 m (h3 m a b' c' d)⟩
  · intro b' h1 h2
    have hne : (1 + b') ≠ c := fun e => by have := I.big c hc.1; have h2' : b' < v.nb := h2; omega
    show upd v.nx c (v.nx c + 1) (1 + b') % 2 = 0
    rw [upd_ne hne]; exact I.hd b' h1 h2
  · intro b' h1 h2
    obtain ⟨L, a, k⟩ := I.chain b' h1 h2
    exact ⟨L, path_congr a fun x _ => t1 x, fun m hm hu => k m hm fun q => hu (m1 m q)⟩
  · intro hd m hm hk
    rcases m2 m hk with h | rfl
    · exact I.dup hd m hm h
    · exact hr

/-- A word becomes one that is over. -/
theorem Inv.over (I : Inv v g) {o x : Int} (hx : 1 < x) : Inv { v with wd := upd v.wd o x } g := by
  have w1 : ∀ a, 1 < v.wd a → 1 < upd v.wd o x a := fun a h => by unfold upd; split <;> omega
  have w2 : ∀ a, upd v.wd o x a = 1 → v.wd a = 1 := fun a h => by
    unfold upd at h; split at h
    · omega
    · exact h
  refine ⟨I.nb0, I.big, I.stT, I.st0, I.T0, I.inj, I.bkr, I.ptr, I.hd, fun b h1 h2 => let ⟨L, a, k⟩ := I.chain b h1 h2; ⟨L, path_congr a fun _ _ => rfl, k⟩, ?_, ?_, I.isins, I.opr, fun a => by have := I.wd0 a; show 0 ≤ upd v.wd o x a; unfold upd; split <;> omega, fun a h1 h2 => I.held a h1 (w2 a h2)⟩
  · intro hd m hm hk; exact (I.dup hd m hm hk).imp (w1 _) id
  · intro hd n m a b c d e f; exact w1 _ (I.fst hd n m a b c d (w2 _ e) f)
/-- A word of an operation that is no insert. -/
theorem Inv.aside (I : Inv v g) {o x : Int} (ho : v.kd o ≠ 1) (hx : 0 ≤ x) : Inv { v with wd := upd v.wd o x } g := by
  refine I.congr rfl (fun _ _ => rfl) (fun _ _ => rfl) (fun n hn => ?_) (fun _ _ => rfl) rfl I.isins (fun a => by have := I.wd0 a; show 0 ≤ upd v.wd o x a; unfold upd; split <;> omega) fun a h1 h2 => ?_
  · exact upd_ne fun e => ho (by rw [← e]; exact I.isins n hn)
  · have h2' : upd v.wd o x a = 1 := h2
    rw [upd_ne (fun e => ho (by rw [← e]; exact h1))] at h2'
    exact I.held a h1 h2'
/-- An insert is let in. -/
theorem Inv.admit (I : Inv v g) {c : Int} (hc : g.lk c) (h0 : v.wd (v.op c) = 0) (hb : g.sd = true → ∀ n, g.lk n → v.key n = v.key c → g.st n < g.st c → ¬ v.mkd n → 1 < v.wd (v.op n)) : Inv { v with wd := upd v.wd (v.op c) 1 } g := by
  have w1 : ∀ a, 1 < v.wd a → 1 < upd v.wd (v.op c) 1 a := fun a h => by
    unfold upd; split
    · rename_i e; rw [e] at h; omega
    · exact h
  refine ⟨I.nb0, I.big, I.stT, I.st0, I.T0, I.inj, I.bkr, I.ptr, I.hd, fun b h1 h2 => let ⟨L, a, k⟩ := I.chain b h1 h2; ⟨L, path_congr a fun _ _ => rfl, k⟩, ?_, ?_, I.isins, I.opr, fun a => by have := I.wd0 a; show 0 ≤ upd v.wd (v.op c) 1 a; unfold upd; split <;> omega, ?_⟩
  · intro hd m hm hk; exact (I.dup hd m hm hk).imp (w1 _) id
  · intro hd n m hn hm hk hs hw hf
    have hw' : upd v.wd (v.op c) 1 (v.op m) = 1 := hw
    by_cases e : v.op m = v.op c
    · -- the first node of what is let in
      have e1 : g.st m ≤ g.st c := hf c hc e.symm
      by_cases hov : v.wd (v.op n) ≤ 1
      · obtain ⟨f, f1, f2, f3, f4, f5, f6⟩ := I.first hn
        have := hb hd f f1 (f3.trans (hk.trans (congrArg v.ky e))) (by omega) (f6 hd hov)
        rw [f2] at this; omega
      · exact w1 _ (show 1 < v.wd (v.op n) by omega)
    · rw [upd_ne e] at hw'
      exact w1 _ (I.fst hd n m hn hm hk hs hw' hf)
  · intro o h1 h2
    by_cases e : o = v.op c
    · exact ⟨c, hc, e.symm⟩
    · have h2' : upd v.wd (v.op c) 1 o = 1 := h2
      rw [upd_ne e] at h2'
      exact I.held o h1 h2'

/-- A marked node is leapt over. -/
theorem Inv.unlink (I : Inv v g) {b p c : Int} (hp : Pn v g b p) (hpc : v.nx p = 2 * c) (hc : Nd v g b c) (hm : v.mkd c) : Inv { v with nx := upd v.nx p (2 * v.to c) } g := by
  have hpu : ¬ v.mkd p := by unfold Vw.mkd; omega
  have htp : v.to p = c := by unfold Vw.to; omega
  have hr := hp.range I
  have hcp : c ≠ p := fun e => hpu (e ▸ hm)
  have t1 : ∀ n, n ≠ p → (Vw.to { v with nx := upd v.nx p (2 * v.to c) } n) = v.to n := fun n h => by
    show upd v.nx p (2 * v.to c) n / 2 = v.nx n / 2
    rw [upd_ne h]
  have t2 : (Vw.to { v with nx := upd v.nx p (2 * v.to c) } p) = v.to c := by
    show upd v.nx p (2 * v.to c) p / 2 = _
    rw [upd_eq]; omega
  have m1 : ∀ n, (Vw.mkd { v with nx := upd v.nx p (2 * v.to c) } n) ↔ v.mkd n := fun n => by
    show upd v.nx p (2 * v.to c) n % 2 = 1 ↔ v.nx n % 2 = 1
    unfold upd; split
    · rename_i e; subst e; omega
    · exact Iff.rfl
  have hap : Aft v g b p c := by
    rcases I.ptr b p hp with h | ⟨_, h, _⟩
    · rw [htp] at h; have := I.big c hc.1; have := I.nb0; omega
    · rw [htp] at h; exact h
  refine ⟨I.nb0, I.big, I.stT, I.st0, I.T0, I.inj, I.bkr, ?_, ?_, ?_, ?_, I.fst, I.isins, I.opr, I.wd0, I.held⟩
  · intro b' p' hp'
    by_cases e : p' = p
    · subst e
      have hb : b' = b := by
        rcases hp' with h | h
        · rcases hp with k | k
          · have h1 := h.1; have k1 := k.1; omega
          · exact (I.nothd k.1 h).elim
        · rcases hp with k | k
          · exact (I.nothd h.1 k).elim
          · exact h.2.symm.trans k.2
      subst hb
      rw [t2]
      rcases I.ptr b' c (.inr hc) with h | ⟨h1, h2, h3⟩
      · exact .inl h
      · have h2' := I.aft_lt hc.1 h2
        refine .inr ⟨h1, hap.trans h2', fun m a1 a2 a3 a4 => (m1 m).2 ?_⟩
        rcases I.tri a1 hc.1 with k | rfl | k
        · refine Classical.byContradiction fun hu => ?_
          obtain ⟨_, j⟩ := I.adj hp hpu (m := m) ⟨a1, by have := h1.2; rw [← a2] at this; exact this⟩ hu a3
          rw [htp] at j
          rcases j with rfl | j
          · exact k.irrefl
          · exact k.asymm j
        · exact hm
        · exact h3 m a1 a2 (.inr k) a4
    · rw [t1 p' e]
      exact (I.ptr b' p' hp').imp id fun ⟨h1, h2, h3⟩ => ⟨h1, h2, fun m a1 a2 a3 a4 => (m1 m).2 (h3 m a1 a2 a3 a4)⟩
  · intro b' h1 h2
    have := (m1 (1 + b')).1
    have hz := I.hd b' h1 h2
    show upd v.nx p (2 * v.to c) (1 + b') % 2 = 0
    unfold upd; split
    · omega
    · exact hz
  · intro b' h1 h2
    obtain ⟨L, hL, hall⟩ := I.chain b' h1 h2
    obtain ⟨hf, hs⟩ := path_facts I (.inl ⟨rfl, h1, h2⟩) hL
    by_cases hbb : b' = b
    · subst hbb
      -- behind p comes c, then what is behind c
      have cut : ∀ B, VPath v p B → B.Pairwise (Lt v g) → (∀ m ∈ B, Nd v g b' m ∧ Aft v g b' p m) → ∃ B', B = c :: B' ∧ VPath { v with nx := upd v.nx p (2 * v.to c) } p B' := by
        intro B hB hsB hfB
        cases B with
        | nil => have hz : v.to p = 0 := hB; rw [htp] at hz; have := I.big c hc.1; have := I.nb0; omega
        | cons a B =>
          obtain ⟨q1, q2, q3⟩ := hB
          obtain rfl : c = a := htp.symm.trans q1
          refine ⟨B, rfl, path_other q3 t2 fun x hx => t1 x ?_⟩
          rintro rfl
          rcases hp with k | k
          · exact I.nothd (hfB x (.tail _ hx)).1.1 k
          · exact (I.aft_lt k.1 (hfB x (.tail _ hx)).2).irrefl
      rcases hp with hh | hh
      · obtain rfl : p = 1 + b' := hh.1
        obtain ⟨B', rfl, hB'⟩ := cut L hL hs hf
        refine ⟨B', hB', fun m hm' hu => ?_⟩
        rcases List.mem_cons.1 (hall m hm' fun k => hu ((m1 m).2 k)) with rfl | h
        · exact (hu ((m1 m).2 hm)).elim
        · exact h
      · have hpL := hall p hh hpu
        obtain ⟨A, B, rfl⟩ := List.append_of_mem hpL
        have hB := path_tail hL
        obtain ⟨hsA, hs2, hs3⟩ := List.pairwise_append.1 hs
        obtain ⟨hs4, hs5⟩ := List.pairwise_cons.1 hs2
        obtain ⟨B', rfl, hB'⟩ := cut B hB hs5 fun m hm => ⟨(hf m (List.mem_append.2 (.inr (.tail _ hm)))).1, .inr (hs4 m hm)⟩
        refine ⟨A ++ p :: B', path_swap hL (fun a ha => t1 a ?_) hB', fun m hm' hu => ?_⟩
        · rintro rfl
          rcases List.mem_cons.1 ha with e | ha
          · exact I.nothd hh.1 ⟨e, h1, h2⟩
          · exact (hs3 a ha a (.head _)).irrefl
        · rcases List.mem_append.1 (hall m hm' fun k => hu ((m1 m).2 k)) with h | h
          · exact List.mem_append.2 (.inl h)
          · rcases List.mem_cons.1 h with rfl | h
            · exact List.mem_append.2 (.inr (.head _))
            · rcases List.mem_cons.1 h with rfl | h
              · exact (hu ((m1 m).2 hm)).elim
              · exact List.mem_append.2 (.inr (.tail _ h))
    · refine ⟨L, path_congr hL fun a ha => t1 a ?_, fun m hm' hu => hall m hm' fun k => hu ((m1 m).2 k)⟩
      rintro rfl
      rcases List.mem_cons.1 ha with rfl | ha
      · rcases hp with k | k
        · have := k.1; omega
        · exact I.nothd k.1 ⟨rfl, h1, h2⟩
      · have k1 := (hf a ha).1
        rcases hp with k | k
        · exact I.nothd k1.1 k
        · exact hbb (k1.2.symm.trans k.2)
  · intro hd m hm' hk; exact I.dup hd m hm' ((m1 m).1 hk)

/-- What is linked with a new node. -/
def Gh.more (g : Gh) (n : Int) : Gh := { lk := fun m => g.lk m ∨ m = n, st := upd g.st n g.T, T := g.T + 1, sd := g.sd }
/-- A node is linked, where the next one's key is greater. -/
theorem Inv.link (I : Inv v g) {b p c n : Int} (hp : Pn v g b p) (hpc : v.nx p = 2 * c) (hn : ¬ g.lk n) (hnb : v.nb < n) (hnc : v.nx n = 2 * c) (hb : v.bk (v.key n) = b) (hpk : g.lk p → v.key p ≤ v.key n) (hck : c = 0 ∨ v.key n < v.key c)
    (hi : v.kd (v.op n) = 1) (ho : 0 ≤ v.op n) (hw : g.sd = true → v.wd (v.op n) ≠ 1) : Inv { v with nx := upd v.nx p (2 * n) } (g.more n) := by
  have hpu : ¬ v.mkd p := by unfold Vw.mkd; omega
  have htp : v.to p = c := by unfold Vw.to; omega
  have htn : v.to n = c := by unfold Vw.to; omega
  have hr := hp.range I
  have hne : n ≠ p := by
    rintro rfl
    rcases hp with k | k
    · have := k.1; omega
    · exact hn k.1
  have t1 : ∀ m, m ≠ p → (Vw.to { v with nx := upd v.nx p (2 * n) } m) = v.to m := fun m h => by
    show upd v.nx p (2 * n) m / 2 = v.nx m / 2
    rw [upd_ne h]
  have t2 : (Vw.to { v with nx := upd v.nx p (2 * n) } p) = n := by
    show upd v.nx p (2 * n) p / 2 = _
    rw [upd_eq]; omega
  have m1 : ∀ m, (Vw.mkd { v with nx := upd v.nx p (2 * n) } m) ↔ v.mkd m := fun m => by
    show upd v.nx p (2 * n) m % 2 = 1 ↔ v.nx m % 2 = 1
    unfold upd; split
    · rename_i e; subst e; omega
    · exact Iff.rfl
  have hnu : ¬ v.mkd n := by unfold Vw.mkd; omega
  have s1 : ∀ m, g.lk m → (g.more n).st m = g.st m := fun m h => upd_ne fun e => hn (e ▸ h)
  have s2 : (g.more n).st n = g.T := upd_eq _ _ _
  have l1 : ∀ x y, g.lk x → g.lk y → (Lt { v with nx := upd v.nx p (2 * n) } (g.more n) x y ↔ Lt v g x y) := fun x y hx hy => by
    unfold Lt; rw [s1 x hx, s1 y hy]
  have l2 : ∀ x, g.lk x → (Lt { v with nx := upd v.nx p (2 * n) } (g.more n) x n ↔ v.key x ≤ v.key n) := fun x hx => by
    unfold Lt; rw [s1 x hx, s2]
    have := I.stT x hx
    show v.key x < v.key n ∨ (v.key x = v.key n ∧ g.st x < g.T) ↔ _
    omega
  have l3 : ∀ y, g.lk y → (Lt { v with nx := upd v.nx p (2 * n) } (g.more n) n y ↔ v.key n < v.key y) := fun y hy => by
    unfold Lt; rw [s1 y hy, s2]
    have := I.stT y hy
    show v.key n < v.key y ∨ (v.key n = v.key y ∧ g.T < g.st y) ↔ _
    omega
  -- what isn't marked behind p has a greater key
  have far : ∀ m, Nd v g b m → ¬ v.mkd m → Aft v g b p m → v.key n < v.key m := by
    intro m h1 h2 h3
    obtain ⟨k1, k2⟩ := I.adj hp hpu h1 h2 h3
    rw [htp] at k1 k2
    have hck' := hck.resolve_left k1
    rcases k2 with rfl | k2
    · exact hck'
    · unfold Lt at k2; omega
  have hcN : c ≠ 0 → Nd v g b c ∧ Aft v g b p c := fun h => by
    have := I.ptr b p hp
    rw [htp] at this
    obtain ⟨h1, h2, _⟩ := this.resolve_left h
    exact ⟨h1, h2⟩
  have aft : ∀ b' q m, Pn v g b' q → g.lk m → (Aft { v with nx := upd v.nx p (2 * n) } (g.more n) b' q m ↔ Aft v g b' q m) := by
    intro b' q m hq hm
    rcases hq with hq | hq
    · exact ⟨fun _ => .inl hq, fun _ => .inl hq⟩
    · exact ⟨fun h => h.imp id (l1 q m hq.1 hm).1, fun h => h.imp id (l1 q m hq.1 hm).2⟩
  have hNn : Nd { v with nx := upd v.nx p (2 * n) } (g.more n) b n := ⟨.inr rfl, hb⟩
  refine ⟨I.nb0, ?_, ?_, ?_, ?_, ?_, ?_, ?_, ?_, ?_, ?_, ?_, ?_, ?_, ?_, ?_⟩
  · rintro m (h | rfl)
    · exact I.big m h
    · exact hnb
  · rintro m (h | rfl)
    · rw [s1 m h]; have := I.stT m h; show _ < g.T + 1; omega
    · rw [s2]; show _ < g.T + 1; omega
  · rintro m (h | rfl)
    · rw [s1 m h]; exact I.st0 m h
    · rw [s2]; exact I.T0
  · show 0 ≤ g.T + 1
    have := I.T0; omega
  · rintro x y (hx | rfl) (hy | rfl) he
    · rw [s1 x hx, s1 y hy] at he; exact I.inj x y hx hy he
    · rw [s1 x hx, s2] at he; have := I.stT x hx; omega
    · rw [s1 y hy, s2] at he; have := I.stT y hy; omega
    · rfl
  · rintro m (h | rfl)
    · exact I.bkr m h
    · show 0 ≤ v.bk (v.key m) ∧ v.bk (v.key m) < v.nb
      rw [hb]; exact hr
  · intro b' q hq
    have old : Pn v g b' q ∨ (q = n ∧ b' = b) := by
      rcases hq with h | ⟨h | rfl, h2⟩
      · exact .inl (.inl h)
      · exact .inl (.inr ⟨h, h2⟩)
      · exact .inr ⟨rfl, h2.symm.trans hb⟩
    rcases old with ho | ⟨rfl, rfl⟩
    · by_cases e : q = p
      · subst e
        have hbb : b' = b := by
          rcases ho with h | h
          · rcases hp with k | k
            · have h1 := h.1; have k1 := k.1; omega
            · exact (I.nothd k.1 h).elim
          · rcases hp with k | k
            · exact (I.nothd h.1 k).elim
            · exact h.2.symm.trans k.2
        subst hbb
        rw [t2]
        refine .inr ⟨hNn, ?_, ?_⟩
        · rcases ho with h | h
          · exact .inl h
          · exact .inr ((l2 q h.1).2 (hpk h.1))
        · rintro m (h | rfl) a2 a3 a4
          · refine (m1 m).2 (Classical.byContradiction fun hu => ?_)
            have a2' : v.key m = v.key n := a2
            have := far m ⟨h, by rw [a2']; exact hb⟩ hu ((aft b' q m hp h).1 a3)
            omega
          · omega
      · rw [t1 q e]
        rcases I.ptr b' q ho with h | ⟨h1, h2, h3⟩
        · exact .inl h
        · refine .inr ⟨⟨.inl h1.1, h1.2⟩, (aft b' q _ ho h1.1).2 h2, ?_⟩
          rintro m (h | rfl) a2 a3 a4
          · rw [s1 m h, s1 _ h1.1] at a4
            exact (m1 m).2 (h3 m h a2 ((aft b' q m ho h).1 a3) a4)
          · rw [s2, s1 _ h1.1] at a4
            have := I.stT _ h1.1
            omega
    · rw [t1 q hne, htn]
      by_cases hc0 : c = 0
      · exact .inl hc0
      · have h := hck.resolve_left hc0
        obtain ⟨h1, h2⟩ := hcN hc0
        refine .inr ⟨⟨.inl h1.1, h1.2⟩, .inr ((l3 c h1.1).2 h), ?_⟩
        rintro m (h' | rfl) a2 a3 a4
        · refine (m1 m).2 (Classical.byContradiction fun hu => ?_)
          rw [s1 m h', s1 c h1.1] at a4
          have a2' : v.key m = v.key c := a2
          have ha : Aft v g b' p m := by
            rcases hp with k | k
            · exact .inl k
            · refine .inr (.inl ?_)
              have := hpk k.1
              omega
          obtain ⟨_, k2⟩ := I.adj hp hpu (m := m) ⟨h', by rw [a2']; exact h1.2⟩ hu ha
          rw [htp] at k2
          rcases k2 with rfl | k2
          · omega
          · unfold Lt at k2; omega
        · have a2' : v.key m = v.key c := a2
          omega
  · intro b' h1 h2
    show upd v.nx p (2 * n) (1 + b') % 2 = 0
    unfold upd; split
    · omega
    · exact I.hd b' h1 h2
  · intro b' h1 h2
    obtain ⟨L, hL, hall⟩ := I.chain b' h1 h2
    obtain ⟨hf, hs⟩ := path_facts I (.inl ⟨rfl, h1, h2⟩) hL
    by_cases hbb : b' = b
    · subst hbb
      have cut : ∀ B, VPath v p B → (∀ m ∈ B, g.lk m ∧ m ≠ p) → VPath { v with nx := upd v.nx p (2 * n) } p (n :: B) := by
        intro B hB hfB
        refine ⟨t2, fun e => ?_, path_other hB ((t1 n hne).trans (htn.trans htp.symm)) fun x hx => t1 x (hfB x hx).2⟩
        have := I.nb0; omega
      have mem : ∀ m, Nd { v with nx := upd v.nx p (2 * n) } (g.more n) b' m → ¬ Vw.mkd { v with nx := upd v.nx p (2 * n) } m → m ∈ L ∨ m = n := by
        rintro m ⟨h | rfl, h2⟩ hu
        · exact .inl (hall m ⟨h, h2⟩ fun k => hu ((m1 m).2 k))
        · exact .inr rfl
      rcases hp with hh | hh
      · obtain rfl : p = 1 + b' := hh.1
        refine ⟨n :: L, cut L hL fun m hm => ⟨(hf m hm).1.1, fun e => I.nothd (hf m hm).1.1 (e ▸ hh)⟩, fun m hm hu => ?_⟩
        rcases mem m hm hu with h | rfl
        · exact .tail _ h
        · exact .head _
      · have hpL := hall p hh hpu
        obtain ⟨A, B, rfl⟩ := List.append_of_mem hpL
        have hB := path_tail hL
        obtain ⟨hsA, hs2, hs3⟩ := List.pairwise_append.1 hs
        obtain ⟨hs4, hs5⟩ := List.pairwise_cons.1 hs2
        refine ⟨A ++ p :: (n :: B), path_swap hL (fun a ha => t1 a ?_) (cut B hB fun m hm => ⟨(hf m (List.mem_append.2 (.inr (.tail _ hm)))).1.1, fun e => by rw [e] at hm; exact (hs4 p hm).irrefl⟩), fun m hm hu => ?_⟩
        · rintro rfl
          rcases List.mem_cons.1 ha with e | ha
          · exact I.nothd hh.1 ⟨e, h1, h2⟩
          · exact (hs3 a ha a (.head _)).irrefl
        · rcases mem m hm hu with h | rfl
          · rcases List.mem_append.1 h with h | h
            · exact List.mem_append.2 (.inl h)
            · rcases List.mem_cons.1 h with rfl | h
              · exact List.mem_append.2 (.inr (.head _))
              · exact List.mem_append.2 (.inr (.tail _ (.tail _ h)))
          · exact List.mem_append.2 (.inr (.tail _ (.head _)))
    · refine ⟨L, path_congr hL fun a ha => t1 a ?_, ?_⟩
      · rintro rfl
        rcases List.mem_cons.1 ha with rfl | ha
        · rcases hp with k | k
          · have := k.1; omega
          · exact I.nothd k.1 ⟨rfl, h1, h2⟩
        · have k1 := (hf a ha).1
          rcases hp with k | k
          · exact I.nothd k1.1 k
          · exact hbb (k1.2.symm.trans k.2)
      · rintro m ⟨h | rfl, h3⟩ hu
        · exact hall m ⟨h, h3⟩ fun k => hu ((m1 m).2 k)
        · exact (hbb (h3.symm.trans hb)).elim
  · rintro hd m (h | rfl) hk
    · refine (I.dup hd m h ((m1 m).1 hk)).imp id ?_
      rintro ⟨k, a1, a2, a3⟩
      exact ⟨k, .inl a1, a2, by rw [s1 k a1, s1 m h]; exact a3⟩
    · exact (hnu ((m1 m).1 hk)).elim
  · rintro hd x y (hx | rfl) (hy | rfl) hk hs hw' hf
    · rw [s1 x hx, s1 y hy] at hs
      exact I.fst hd x y hx hy hk hs hw' fun k a1 a2 => by have := hf k (.inl a1) a2; rw [s1 k a1, s1 y hy] at this; exact this
    · exact (hw hd hw').elim
    · rw [s2, s1 y hy] at hs; have := I.stT y hy; omega
    · omega
  · rintro m (h | rfl)
    · exact I.isins m h
    · exact hi
  · rintro m (h | rfl)
    · exact I.opr m h
    · exact ho
  · exact I.wd0
  · intro o h1 h2
    obtain ⟨k, a1, a2⟩ := I.held o h1 h2
    exact ⟨k, .inl a1, a2⟩
end
end Go.Proofs.Ytccmjljlfgbicaa
