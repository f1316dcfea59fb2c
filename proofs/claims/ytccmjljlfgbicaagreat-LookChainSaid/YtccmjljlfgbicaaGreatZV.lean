/- Nodes in their order: what stays so, whoever takes a step. Plain: no program in sight. -/
import Derived.Test.YtccmjljlfgbicaaGreatRows
import Derived.Test.YtccmjljlfgbicaaGreatLow
import Derived.Test.YtccmjljlfgbicaaGreatLaid
namespace Go.Proofs.YtccmjljlfgbicaaGreat

/-- What can be seen of a world: references, words, what nodes carry, keys of operations, keys' buckets. -/
structure Vw where
  nb : Int
  nx : Int → Int
  wd : Int → Int
  op : Int → Int
  ky : Int → Int
  bk : Int → Int
  kd : Int → Int
/-- What was linked, and when. -/
structure Gh where
  lk : Int → Prop
  st : Int → Int
  T : Int
  sd : Bool

def upd (f : Int → Int) (n x : Int) : Int → Int := fun m => if m = n then x else f m
theorem upd_eq (f : Int → Int) (n x : Int) : upd f n x n = x := by simp [upd]
theorem upd_ne {f : Int → Int} {n x m : Int} (h : m ≠ n) : upd f n x m = f m := by simp [upd, h]

abbrev Vw.key (v : Vw) (n : Int) : Int := v.ky (v.op n)
abbrev Vw.to (v : Vw) (n : Int) : Int := v.nx n / 2
abbrev Vw.mkd (v : Vw) (n : Int) : Prop := v.nx n % 2 = 1
/-- One node is ahead of another one. -/
def Lt (v : Vw) (g : Gh) (a b : Int) : Prop := v.key a < v.key b ∨ (v.key a = v.key b ∧ g.st a < g.st b)
def Hd (v : Vw) (b p : Int) : Prop := p = 1 + b ∧ 0 ≤ b ∧ b < v.nb
def Nd (v : Vw) (g : Gh) (b n : Int) : Prop := g.lk n ∧ v.bk (v.key n) = b
def Pn (v : Vw) (g : Gh) (b p : Int) : Prop := Hd v b p ∨ Nd v g b p
def Aft (v : Vw) (g : Gh) (b p m : Int) : Prop := Hd v b p ∨ Lt v g p m
/-- A pointer as it may be: what it leaps over, of its target's key, is marked. -/
def Ptr (v : Vw) (g : Gh) (b p q : Int) : Prop :=
  q = 0 ∨ (Nd v g b q ∧ Aft v g b p q ∧ ∀ m, g.lk m → v.key m = v.key q → Aft v g b p m → g.st m < g.st q → v.mkd m)
def VPath (v : Vw) : Int → List Int → Prop
  | n, [] => v.to n = 0
  | n, a :: l => v.to n = a ∧ a ≠ 0 ∧ VPath v a l

/-- All is as it may be. -/
structure Inv (v : Vw) (g : Gh) : Prop where
  nb0 : 0 ≤ v.nb
  big : ∀ n, g.lk n → v.nb < n
  stT : ∀ n, g.lk n → g.st n < g.T
  st0 : ∀ n, g.lk n → 0 ≤ g.st n
  T0 : 0 ≤ g.T
  inj : ∀ n m, g.lk n → g.lk m → g.st n = g.st m → n = m
  bkr : ∀ n, g.lk n → 0 ≤ v.bk (v.key n) ∧ v.bk (v.key n) < v.nb
  ptr : ∀ b p, Pn v g b p → Ptr v g b p (v.to p)
  hd : ∀ b, 0 ≤ b → b < v.nb → v.nx (1 + b) % 2 = 0
  chain : ∀ b, 0 ≤ b → b < v.nb → ∃ L, VPath v (1 + b) L ∧ ∀ m, Nd v g b m → ¬ v.mkd m → m ∈ L
  dup : g.sd = true → ∀ m, g.lk m → v.mkd m → 1 < v.wd (v.op m) ∨ ∃ n, g.lk n ∧ v.op n = v.op m ∧ g.st n < g.st m
  fst : g.sd = true → ∀ n m, g.lk n → g.lk m → v.key n = v.key m → g.st n < g.st m → v.wd (v.op m) = 1 → (∀ k, g.lk k → v.op k = v.op m → g.st m ≤ g.st k) → 1 < v.wd (v.op n)
  isins : ∀ n, g.lk n → v.kd (v.op n) = 1
  opr : ∀ n, g.lk n → 0 ≤ v.op n
  wd0 : ∀ o, 0 ≤ v.wd o
  held : ∀ o, v.kd o = 1 → v.wd o = 1 → ∃ n, g.lk n ∧ v.op n = o

section
variable {v : Vw} {g : Gh}
theorem Lt.trans {a b c : Int} (h : Lt v g a b) (k : Lt v g b c) : Lt v g a c := by
  unfold Lt at *; omega
theorem Lt.irrefl {a : Int} (h : Lt v g a a) : False := by unfold Lt at h; omega
theorem Lt.asymm {a b : Int} (h : Lt v g a b) (k : Lt v g b a) : False := (h.trans k).irrefl
theorem Inv.tri (I : Inv v g) {a b : Int} (ha : g.lk a) (hb : g.lk b) : Lt v g a b ∨ a = b ∨ Lt v g b a := by
  unfold Lt
  by_cases h : g.st a = g.st b
  · exact .inr (.inl (I.inj a b ha hb h))
  · omega
theorem Inv.nothd (I : Inv v g) {b n : Int} (h : g.lk n) : ¬ Hd v b n := by
  rintro ⟨rfl, h1, h2⟩
  have := I.big _ h; omega
theorem Inv.aft_lt (I : Inv v g) {b n m : Int} (h : g.lk n) (k : Aft v g b n m) : Lt v g n m := k.resolve_left (I.nothd h)
theorem Aft.trans {b p a c : Int} (h : Aft v g b p a) (k : Lt v g a c) : Aft v g b p c := h.imp id fun h => h.trans k
theorem Pn.range (I : Inv v g) {b p : Int} (h : Pn v g b p) : 0 ≤ b ∧ b < v.nb := by
  rcases h with ⟨_, h⟩ | ⟨h, rfl⟩
  · exact h
  · exact I.bkr _ h

theorem path_facts (I : Inv v g) {b : Int} : ∀ {L : List Int} {p : Int}, Pn v g b p → VPath v p L → (∀ m ∈ L, Nd v g b m ∧ Aft v g b p m) ∧ L.Pairwise (Lt v g)
  | [], _, _, _ => ⟨fun _ h => (by cases h), .nil⟩
  | a :: l, p, hp, ⟨h1, h2, h3⟩ => by
    have hq := I.ptr b p hp
    rw [h1] at hq
    obtain ⟨n1, n2, _⟩ := hq.resolve_left h2
    obtain ⟨i1, i2⟩ := path_facts I (.inr n1) h3
    have i3 : ∀ m ∈ l, Lt v g a m := fun m hm => I.aft_lt n1.1 (i1 m hm).2
    refine ⟨?_, .cons i3 i2⟩
    intro m hm
    rcases List.mem_cons.1 hm with rfl | hm
    · exact ⟨n1, n2⟩
    · exact ⟨(i1 m hm).1, n2.trans (i3 m hm)⟩

theorem path_tail : ∀ {A : List Int} {h p : Int} {B : List Int}, VPath v h (A ++ p :: B) → VPath v p B
  | [], _, _, _, h => h.2.2
  | _ :: A, _, _, _, h => path_tail (A := A) h.2.2
theorem path_swap {v' : Vw} : ∀ {A : List Int} {h p : Int} {B B' : List Int}, VPath v h (A ++ p :: B) → (∀ a ∈ h :: A, v'.to a = v.to a) → VPath v' p B' → VPath v' h (A ++ p :: B')
  | [], _, _, _, _, h, he, k => ⟨(he _ (.head _)).trans h.1, h.2.1, k⟩
  | _ :: A, _, _, _, _, h, he, k => ⟨(he _ (.head _)).trans h.1, h.2.1, path_swap (A := A) h.2.2 (fun a ha => he a (.tail _ ha)) k⟩
theorem path_congr {v' : Vw} : ∀ {L : List Int} {p : Int}, VPath v p L → (∀ a ∈ p :: L, v'.to a = v.to a) → VPath v' p L
  | [], _, h, he => (he _ (.head _)).trans h
  | _ :: _, _, h, he => ⟨(he _ (.head _)).trans h.1, h.2.1, path_congr h.2.2 fun a ha => he a (.tail _ ha)⟩
theorem path_other {v' : Vw} {L : List Int} {p p' : Int} (h : VPath v p L) (hp : v'.to p' = v.to p) (he : ∀ a ∈ L, v'.to a = v.to a) : VPath v' p' L := by
  cases L with
  | nil => exact hp.trans h
  | cons a l => exact ⟨hp.trans h.1, h.2.1, path_congr h.2.2 he⟩

/-- What stands behind a node that can be come to, and isn't marked, is its next one, or behind that. -/
theorem Inv.adj (I : Inv v g) {b p m : Int} (hp : Pn v g b p) (hu : ¬ v.mkd p) (hm : Nd v g b m) (hmu : ¬ v.mkd m) (ha : Aft v g b p m) : v.to p ≠ 0 ∧ (v.to p = m ∨ Lt v g (v.to p) m) := by
  have hr := hp.range I
  obtain ⟨L, hL, hall⟩ := I.chain b hr.1 hr.2
  have hmL := hall m hm hmu
  have key : ∀ B, VPath v p B → m ∈ B → B.Pairwise (Lt v g) → v.to p ≠ 0 ∧ (v.to p = m ∨ Lt v g (v.to p) m) := by
    intro B hB hmB hs
    cases B with
    | nil => cases hmB
    | cons a l =>
      obtain ⟨e1, e2, _⟩ := hB
      refine ⟨by rw [e1]; exact e2, ?_⟩
      rw [e1]
      rcases List.mem_cons.1 hmB with rfl | h
      · exact .inl rfl
      · exact .inr ((List.pairwise_cons.1 hs).1 m h)
  obtain ⟨_, hs⟩ := path_facts I (.inl ⟨rfl, hr.1, hr.2⟩) hL
  rcases hp with ⟨rfl, _⟩ | hp
  · exact key L hL hmL hs
  · have hpL := hall p hp hu
    obtain ⟨A, B, rfl⟩ := List.append_of_mem hpL
    have hB := path_tail hL
    obtain ⟨_, hs2, hs3⟩ := List.pairwise_append.1 hs
    obtain ⟨hs4, hs5⟩ := List.pairwise_cons.1 hs2
    have hlt := I.aft_lt hp.1 ha
    refine key B hB ?_ hs5
    rcases List.mem_append.1 hmL with h | h
    · exact (Lt.asymm hlt (hs3 m h p (.head _))).elim
    · rcases List.mem_cons.1 h with rfl | h
      · exact hlt.irrefl.elim
      · exact h

/-- The first node of an operation. -/
theorem first_of (h0 : ∀ m, g.lk m → 0 ≤ g.st m) : ∀ (k : Nat) {n : Int}, g.lk n → g.st n < k → ∃ f, g.lk f ∧ v.op f = v.op n ∧ g.st f ≤ g.st n ∧ ∀ m, g.lk m → v.op m = v.op n → g.st f ≤ g.st m
  | 0, n, hn, hk => by have := h0 n hn; omega
  | k + 1, n, hn, hk => by
    by_cases h : ∃ m, g.lk m ∧ v.op m = v.op n ∧ g.st m < g.st n
    · obtain ⟨m, h1, h2, h3⟩ := h
      obtain ⟨f, f1, f2, f3, f4⟩ := first_of h0 k h1 (by omega)
      exact ⟨f, f1, f2.trans h2, by omega, fun m' a b => f4 m' a (b.trans h2.symm)⟩
    · refine ⟨n, hn, rfl, Int.le_refl _, fun m a b => ?_⟩
      by_cases e : g.st n ≤ g.st m
      · exact e
      · exact (h ⟨m, a, b, by omega⟩).elim
/-- The first node of an operation that isn't over isn't marked; it is no later than any other one of it. -/
theorem Inv.first (I : Inv v g) {n : Int} (hn : g.lk n) : ∃ f, g.lk f ∧ v.op f = v.op n ∧ v.key f = v.key n ∧ g.st f ≤ g.st n ∧ (∀ m, g.lk m → v.op m = v.op n → g.st f ≤ g.st m) ∧ (g.sd = true → v.wd (v.op n) ≤ 1 → ¬ v.mkd f) := by
  have h0 := I.st0 n hn
  obtain ⟨f, f1, f2, f3, f4⟩ := first_of (v := v) I.st0 (g.st n + 1).toNat hn (by omega)
  refine ⟨f, f1, f2, congrArg v.ky f2, f3, f4, fun hd hw hm => ?_⟩
  rcases I.dup hd f f1 hm with h | ⟨k, k1, k2, k3⟩
  · rw [f2] at h; omega
  · have := f4 k k1 (k2.trans f2); omega

/-- What isn't linked, nor a head, may be anything. -/
theorem Inv.congr {v' : Vw} (I : Inv v g) (e1 : v'.nb = v.nb) (e2 : ∀ n, (g.lk n ∨ (1 ≤ n ∧ n ≤ v.nb)) → v'.nx n = v.nx n) (e3 : ∀ n, g.lk n → v'.op n = v.op n)
    (e4 : ∀ n, g.lk n → v'.wd (v.op n) = v.wd (v.op n)) (e5 : ∀ n, g.lk n → v'.ky (v.op n) = v.ky (v.op n)) (e6 : v'.bk = v.bk) (e7 : ∀ n, g.lk n → v'.kd (v.op n) = 1) (e9 : ∀ o, 0 ≤ v'.wd o) (e8 : ∀ o, v'.kd o = 1 → v'.wd o = 1 → ∃ n, g.lk n ∧ v.op n = o) : Inv v' g := by
  have k1 : ∀ n, g.lk n → v'.key n = v.key n := fun n h => by show v'.ky (v'.op n) = _; rw [e3 n h, e5 n h]
  have m1 : ∀ n, g.lk n → (v'.mkd n ↔ v.mkd n) := fun n h => by unfold Vw.mkd; rw [e2 n (.inl h)]
  have w1 : ∀ n, g.lk n → v'.wd (v'.op n) = v.wd (v.op n) := fun n h => by rw [e3 n h, e4 n h]
  have l1 : ∀ a b, g.lk a → g.lk b → (Lt v' g a b ↔ Lt v g a b) := fun a b ha hb => by unfold Lt; rw [k1 a ha, k1 b hb]
  have d1 : ∀ b p, Hd v' b p ↔ Hd v b p := fun b p => by unfold Hd; rw [e1]
  have n1 : ∀ b n, Nd v' g b n ↔ Nd v g b n := fun b n => by
    unfold Nd
    constructor
    · rintro ⟨h1, h2⟩; rw [e6, k1 n h1] at h2; exact ⟨h1, h2⟩
    · rintro ⟨h1, h2⟩; exact ⟨h1, by rw [e6, k1 n h1]; exact h2⟩
  have p1 : ∀ b n, Pn v' g b n ↔ Pn v g b n := fun b n => by unfold Pn; rw [d1, n1]
  have t1 : ∀ b p, Pn v g b p → v'.to p = v.to p := fun b p hp => by
    unfold Vw.to
    rcases hp with ⟨rfl, h1, h2⟩ | ⟨h, _⟩
    · rw [e2 _ (.inr ⟨by omega, by omega⟩)]
    · rw [e2 _ (.inl h)]
  refine ⟨by rw [e1]; exact I.nb0, fun n h => by rw [e1]; exact I.big n h, I.stT, I.st0, I.T0, I.inj, fun n h => by rw [e1, e6, k1 n h]; exact I.bkr n h, ?_, ?_, ?_, ?_, ?_, ?_, fun n h => by rw [e3 n h]; exact I.opr n h, e9, ?_⟩
  · intro b p hp
    have hp' := (p1 b p).1 hp
    rw [t1 b p hp']
    rcases I.ptr b p hp' with h | ⟨h1, h2, h3⟩
    · exact .inl h
    · have aft : ∀ m, g.lk m → (Aft v' g b p m ↔ Aft v g b p m) := fun m hm => by
        unfold Aft
        rcases hp' with hh | hh
        · rw [d1]; exact ⟨fun _ => .inl hh, fun _ => .inl hh⟩
        · rw [d1, l1 p m hh.1 hm]
      refine .inr ⟨(n1 b _).2 h1, (aft _ h1.1).2 h2, fun m a b' c d => (m1 m a).2 (h3 m a ?_ ((aft m a).1 c) d)⟩
      rw [k1 m a, k1 _ h1.1] at b'; exact b'
  · intro b h1 h2
    rw [e1] at h2
    rw [e2 _ (.inr ⟨by omega, by omega⟩)]; exact I.hd b h1 h2
  · intro b h1 h2
    rw [e1] at h2
    obtain ⟨L, a, c⟩ := I.chain b h1 h2
    have hf := (path_facts I (.inl ⟨rfl, h1, h2⟩) a).1
    refine ⟨L, path_congr a ?_, fun m hm hu => c m ((n1 b m).1 hm) fun k => hu ((m1 m hm.1).2 k)⟩
    intro x hx
    rcases List.mem_cons.1 hx with rfl | hx
    · exact t1 b _ (.inl ⟨rfl, h1, h2⟩)
    · exact t1 b _ (.inr (hf x hx).1)
  · intro hd m hm hk
    rw [w1 m hm, e3 m hm]
    refine (I.dup hd m hm ((m1 m hm).1 hk)).imp id ?_
    rintro ⟨n, a, b, c⟩
    exact ⟨n, a, by rw [e3 n a]; exact b, c⟩
  · intro hd n m hn hm hk hs hw hf
    rw [w1 n hn]
    rw [k1 n hn, k1 m hm] at hk
    rw [w1 m hm] at hw
    exact I.fst hd n m hn hm hk hs hw fun k hk' he => hf k hk' (by rw [e3 k hk', e3 m hm]; exact he)
  · intro n hn; rw [e3 n hn]; exact e7 n hn
  · intro o h1 h2
    obtain ⟨n, a, b⟩ := e8 o h1 h2
    exact ⟨n, a, by rw [e3 n a]; exact b⟩

/-- A node is marked. -/
theorem Inv.mark (I : Inv v g) {b c : Int} (hc : Nd v g b c) (he : v.nx c % 2 = 0) (hr : 1 < v.wd (v.op c) ∨ ∃ n, g.lk n ∧ v.op n = v.op c ∧ g.st n < g.st c) : Inv { v with nx := upd v.nx c (v.nx c + 1) } g := by
  have t1 : ∀ n, (Vw.to { v with nx := upd v.nx c (v.nx c + 1) } n) = v.to n := fun n => by
    show upd v.nx c (v.nx c + 1) n / 2 = v.nx n / 2
    unfold upd; split
    · rename_i e; subst e; omega
    · rfl
  have m1 : ∀ n, v.mkd n → Vw.mkd { v with nx := upd v.nx c (v.nx c + 1) } n := fun n h => by
    show upd v.nx c (v.nx c + 1) n % 2 = 1
    have h' : v.nx n % 2 = 1 := h
    unfold upd; split
    · rename_i e; subst e; omega
    · exact h'
  have m2 : ∀ n, Vw.mkd { v with nx := upd v.nx c (v.nx c + 1) } n → v.mkd n ∨ n = c := fun n h => by
    by_cases e : n = c
    · exact .inr e
    · refine .inl ?_
      have h' : upd v.nx c (v.nx c + 1) n % 2 = 1 := h
      rw [upd_ne e] at h'; exact h'
  refine ⟨I.nb0, I.big, I.stT, I.st0, I.T0, I.inj, I.bkr, ?_, ?_, ?_, ?_, I.fst, I.isins, I.opr, I.wd0, I.held⟩
  · intro b' p hp
    rw [t1]
    exact (I.ptr b' p hp).imp id fun ⟨h1, h2, h3⟩ => ⟨h1, h2, fun m a b' c' d => m1 m (h3 m a b' c' d)⟩
  · intro b' h1 h2
    have hne : (1 + b') ≠ c := fun e => by have := I.big c hc.1; have h2' : b' < v.nb := h2; omega
    show upd v.nx c (v.nx c + 1) (1 + b') % 2 = 0
    rw [upd_ne hne]; exact I.hd b' h1 h2
  · intro b' h1 h2
    obtain ⟨L, a, k⟩ := I.chain b' h1 h2
    exact ⟨L, path_congr a fun x _ => t1 x, fun m hm hu => k m hm fun q => hu (m1 m q)⟩
  · intro hd m hm hk
    rcases m2 m hk with h | rfl
    · exact I.dup hd m hm h
    · exact hr

/-- A word becomes one that is over. -/
theorem Inv.over (I : Inv v g) {o x : Int} (hx : 1 < x) : Inv { v with wd := upd v.wd o x } g := by
  have w1 : ∀ a, 1 < v.wd a → 1 < upd v.wd o x a := fun a h => by unfold upd; split <;> omega
  have w2 : ∀ a, upd v.wd o x a = 1 → v.wd a = 1 := fun a h => by
    unfold upd at h; split at h
    · omega
    · exact h
  refine ⟨I.nb0, I.big, I.stT, I.st0, I.T0, I.inj, I.bkr, I.ptr, I.hd, fun b h1 h2 => let ⟨L, a, k⟩ := I.chain b h1 h2; ⟨L, path_congr a fun _ _ => rfl, k⟩, ?_, ?_, I.isins, I.opr, fun a => by have := I.wd0 a; show 0 ≤ upd v.wd o x a; unfold upd; split <;> omega, fun a h1 h2 => I.held a h1 (w2 a h2)⟩
  · intro hd m hm hk; exact (I.dup hd m hm hk).imp (w1 _) id
  · intro hd n m a b c d e f; exact w1 _ (I.fst hd n m a b c d (w2 _ e) f)
/-- A word of an operation that is no insert. -/
theorem Inv.aside (I : Inv v g) {o x : Int} (ho : v.kd o ≠ 1) (hx : 0 ≤ x) : Inv { v with wd := upd v.wd o x } g := by
  refine I.congr rfl (fun _ _ => rfl) (fun _ _ => rfl) (fun n hn => ?_) (fun _ _ => rfl) rfl I.isins (fun a => by have := I.wd0 a; show 0 ≤ upd v.wd o x a; unfold upd; split <;> omega) fun a h1 h2 => ?_
  · exact upd_ne fun e => ho (by rw [← e]; exact I.isins n hn)
  · have h2' : upd v.wd o x a = 1 := h2
    rw [upd_ne (fun e => ho (by rw [← e]; exact h1))] at h2'
    exact I.held a h1 h2'
/-- An insert is let in. -/
theorem Inv.admit (I : Inv v g) {c : Int} (hc : g.lk c) (h0 : v.wd (v.op c) = 0) (hb : g.sd = true → ∀ n, g.lk n → v.key n = v.key c → g.st n < g.st c → ¬ v.mkd n → 1 < v.wd (v.op n)) : Inv { v with wd := upd v.wd (v.op c) 1 } g := by
  have w1 : ∀ a, 1 < v.wd a → 1 < upd v.wd (v.op c) 1 a := fun a h => by
    unfold upd; split
    · rename_i e; rw [e] at h; omega
    · exact h
  refine ⟨I.nb0, I.big, I.stT, I.st0, I.T0, I.inj, I.bkr, I.ptr, I.hd, fun b h1 h2 => let ⟨L, a, k⟩ := I.chain b h1 h2; ⟨L, path_congr a fun _ _ => rfl, k⟩, ?_, ?_, I.isins, I.opr, fun a => by have := I.wd0 a; show 0 ≤ upd v.wd (v.op c) 1 a; unfold upd; split <;> omega, ?_⟩
  · intro hd m hm hk; exact (I.dup hd m hm hk).imp (w1 _) id
  · intro hd n m hn hm hk hs hw hf
    have hw' : upd v.wd (v.op c) 1 (v.op m) = 1 := hw
    by_cases e : v.op m = v.op c
    · -- the first node of what is let in
      have e1 : g.st m ≤ g.st c := hf c hc e.symm
      by_cases hov : v.wd (v.op n) ≤ 1
      · obtain ⟨f, f1, f2, f3, f4, f5, f6⟩ := I.first hn
        have := hb hd f f1 (f3.trans (hk.trans (congrArg v.ky e))) (by omega) (f6 hd hov)
        rw [f2] at this; omega
      · exact w1 _ (show 1 < v.wd (v.op n) by omega)
    · rw [upd_ne e] at hw'
      exact w1 _ (I.fst hd n m hn hm hk hs hw' hf)
  · intro o h1 h2
    by_cases e : o = v.op c
    · exact ⟨c, hc, e.symm⟩
    · have h2' : upd v.wd (v.op c) 1 o = 1 := h2
      rw [upd_ne e] at h2'
      exact I.held o h1 h2'

/-- A marked node is leapt over. -/
theorem Inv.unlink (I : Inv v g) {b p c : Int} (hp : Pn v g b p) (hpc : v.nx p = 2 * c) (hc : Nd v g b c) (hm : v.mkd c) : Inv { v with nx := upd v.nx p (2 * v.to c) } g := by
  have hpu : ¬ v.mkd p := by unfold Vw.mkd; omega
  have htp : v.to p = c := by unfold Vw.to; omega
  have hr := hp.range I
  have hcp : c ≠ p := fun e => hpu (e ▸ hm)
  have t1 : ∀ n, n ≠ p → (Vw.to { v with nx := upd v.nx p (2 * v.to c) } n) = v.to n := fun n h => by
    show upd v.nx p (2 * v.to c) n / 2 = v.nx n / 2
    rw [upd_ne h]
  have t2 : (Vw.to { v with nx := upd v.nx p (2 * v.to c) } p) = v.to c := by
    show upd v.nx p (2 * v.to c) p / 2 = _
    rw [upd_eq]; omega
  have m1 : ∀ n, (Vw.mkd { v with nx := upd v.nx p (2 * v.to c) } n) ↔ v.mkd n := fun n => by
    show upd v.nx p (2 * v.to c) n % 2 = 1 ↔ v.nx n % 2 = 1
    unfold upd; split
    · rename_i e; subst e; omega
    · exact Iff.rfl
  have hap : Aft v g b p c := by
    rcases I.ptr b p hp with h | ⟨_, h, _⟩
    · rw [htp] at h; have := I.big c hc.1; have := I.nb0; omega
    · rw [htp] at h; exact h
  refine ⟨I.nb0, I.big, I.stT, I.st0, I.T0, I.inj, I.bkr, ?_, ?_, ?_, ?_, I.fst, I.isins, I.opr, I.wd0, I.held⟩
  · intro b' p' hp'
    by_cases e : p' = p
    · subst e
      have hb : b' = b := by
        rcases hp' with h | h
        · rcases hp with k | k
          · have h1 := h.1; have k1 := k.1; omega
          · exact (I.nothd k.1 h).elim
        · rcases hp with k | k
          · exact (I.nothd h.1 k).elim
          · exact h.2.symm.trans k.2
      subst hb
      rw [t2]
      rcases I.ptr b' c (.inr hc) with h | ⟨h1, h2, h3⟩
      · exact .inl h
      · have h2' := I.aft_lt hc.1 h2
        refine .inr ⟨h1, hap.trans h2', fun m a1 a2 a3 a4 => (m1 m).2 ?_⟩
        rcases I.tri a1 hc.1 with k | rfl | k
        · refine Classical.byContradiction fun hu => ?_
          obtain ⟨_, j⟩ := I.adj hp hpu (m := m) ⟨a1, by have := h1.2; rw [← a2] at this; exact this⟩ hu a3
          rw [htp] at j
          rcases j with rfl | j
          · exact k.irrefl
          · exact k.asymm j
        · exact hm
        · exact h3 m a1 a2 (.inr k) a4
    · rw [t1 p' e]
      exact (I.ptr b' p' hp').imp id fun ⟨h1, h2, h3⟩ => ⟨h1, h2, fun m a1 a2 a3 a4 => (m1 m).2 (h3 m a1 a2 a3 a4)⟩
  · intro b' h1 h2
    have := (m1 (1 + b')).1
    have hz := I.hd b' h1 h2
    show upd v.nx p (2 * v.to c) (1 + b') % 2 = 0
    unfold upd; split
    · omega
    · exact hz
  · intro b' h1 h2
    obtain ⟨L, hL, hall⟩ := I.chain b' h1 h2
    obtain ⟨hf, hs⟩ := path_facts I (.inl ⟨rfl, h1, h2⟩) hL
    by_cases hbb : b' = b
    · subst hbb
      -- behind p comes c, then what is behind c
      have cut : ∀ B, VPath v p B → B.Pairwise (Lt v g) → (∀ m ∈ B, Nd v g b' m ∧ Aft v g b' p m) → ∃ B', B = c :: B' ∧ VPath { v with nx := upd v.nx p (2 * v.to c) } p B' := by
        intro B hB hsB hfB
        cases B with
        | nil => have hz : v.to p = 0 := hB; rw [htp] at hz; have := I.big c hc.1; have := I.nb0; omega
        | cons a B =>
          obtain ⟨q1, q2, q3⟩ := hB
          obtain rfl : c = a := htp.symm.trans q1
          refine ⟨B, rfl, path_other q3 t2 fun x hx => t1 x ?_⟩
          rintro rfl
          rcases hp with k | k
          · exact I.nothd (hfB x (.tail _ hx)).1.1 k
          · exact (I.aft_lt k.1 (hfB x (.tail _ hx)).2).irrefl
      rcases hp with hh | hh
      · obtain rfl : p = 1 + b' := hh.1
        obtain ⟨B', rfl, hB'⟩ := cut L hL hs hf
        refine ⟨B', hB', fun m hm' hu => ?_⟩
        rcases List.mem_cons.1 (hall m hm' fun k => hu ((m1 m).2 k)) with rfl | h
        · exact (hu ((m1 m).2 hm)).elim
        · exact h
      · have hpL := hall p hh hpu
        obtain ⟨A, B, rfl⟩ := List.append_of_mem hpL
        have hB := path_tail hL
        obtain ⟨hsA, hs2, hs3⟩ := List.pairwise_append.1 hs
        obtain ⟨hs4, hs5⟩ := List.pairwise_cons.1 hs2
        obtain ⟨B', rfl, hB'⟩ := cut B hB hs5 fun m hm => ⟨(hf m (List.mem_append.2 (.inr (.tail _ hm)))).1, .inr (hs4 m hm)⟩
        refine ⟨A ++ p :: B', path_swap hL (fun a ha => t1 a ?_) hB', fun m hm' hu => ?_⟩
        · rintro rfl
          rcases List.mem_cons.1 ha with e | ha
          · exact I.nothd hh.1 ⟨e, h1, h2⟩
          · exact (hs3 a ha a (.head _)).irrefl
        · rcases List.mem_append.1 (hall m hm' fun k => hu ((m1 m).2 k)) with h | h
          · exact List.mem_append.2 (.inl h)
          · rcases List.mem_cons.1 h with rfl | h
            · exact List.mem_append.2 (.inr (.head _))
            · rcases List.mem_cons.1 h with rfl | h
              · exact (hu ((m1 m).2 hm)).elim
              · exact List.mem_append.2 (.inr (.tail _ h))
    · refine ⟨L, path_congr hL fun a ha => t1 a ?_, fun m hm' hu => hall m hm' fun k => hu ((m1 m).2 k)⟩
      rintro rfl
      rcases List.mem_cons.1 ha with rfl | ha
      · rcases hp with k | k
        · have := k.1; omega
        · exact I.nothd k.1 ⟨rfl, h1, h2⟩
      · have k1 := (hf a ha).1
        rcases hp with k | k
        · exact I.nothd k1.1 k
        · exact hbb (k1.2.symm.trans k.2)
  · intro hd m hm' hk; exact I.dup hd m hm' ((m1 m).1 hk)

/-- What is linked with a new node. -/
def Gh.more (g : Gh) (n : Int) : Gh := { lk := fun m => g.lk m ∨ m = n, st := upd g.st n g.T, T := g.T + 1, sd := g.sd }
/-- A node is linked, where the next one's key is greater. -/
theorem Inv.link (I : Inv v g) {b p c n : Int} (hp : Pn v g b p) (hpc : v.nx p = 2 * c) (hn : ¬ g.lk n) (hnb : v.nb < n) (hnc : v.nx n = 2 * c) (hb : v.bk (v.key n) = b) (hpk : g.lk p → v.key p ≤ v.key n) (hck : c = 0 ∨ v.key n < v.key c)
    (hi : v.kd (v.op n) = 1) (ho : 0 ≤ v.op n) (hw : g.sd = true → v.wd (v.op n) ≠ 1) : Inv { v with nx := upd v.nx p (2 * n) } (g.more n) := by
  have hpu : ¬ v.mkd p := by unfold Vw.mkd; omega
  have htp : v.to p = c := by unfold Vw.to; omega
  have htn : v.to n = c := by unfold Vw.to; omega
  have hr := hp.range I
  have hne : n ≠ p := by
    rintro rfl
    rcases hp with k | k
    · have := k.1; omega
    · exact hn k.1
  have t1 : ∀ m, m ≠ p → (Vw.to { v with nx := upd v.nx p (2 * n) } m) = v.to m := fun m h => by
    show upd v.nx p (2 * n) m / 2 = v.nx m / 2
    rw [upd_ne h]
  have t2 : (Vw.to { v with nx := upd v.nx p (2 * n) } p) = n := by
    show upd v.nx p (2 * n) p / 2 = _
    rw [upd_eq]; omega
  have m1 : ∀ m, (Vw.mkd { v with nx := upd v.nx p (2 * n) } m) ↔ v.mkd m := fun m => by
    show upd v.nx p (2 * n) m % 2 = 1 ↔ v.nx m % 2 = 1
    unfold upd; split
    · rename_i e; subst e; omega
    · exact Iff.rfl
  have hnu : ¬ v.mkd n := by unfold Vw.mkd; omega
  have s1 : ∀ m, g.lk m → (g.more n).st m = g.st m := fun m h => upd_ne fun e => hn (e ▸ h)
  have s2 : (g.more n).st n = g.T := upd_eq _ _ _
  have l1 : ∀ x y, g.lk x → g.lk y → (Lt { v with nx := upd v.nx p (2 * n) } (g.more n) x y ↔ Lt v g x y) := fun x y hx hy => by
    unfold Lt; rw [s1 x hx, s1 y hy]
  have l2 : ∀ x, g.lk x → (Lt { v with nx := upd v.nx p (2 * n) } (g.more n) x n ↔ v.key x ≤ v.key n) := fun x hx => by
    unfold Lt; rw [s1 x hx, s2]
    have := I.stT x hx
    show v.key x < v.key n ∨ (v.key x = v.key n ∧ g.st x < g.T) ↔ _
    omega
  have l3 : ∀ y, g.lk y → (Lt { v with nx := upd v.nx p (2 * n) } (g.more n) n y ↔ v.key n < v.key y) := fun y hy => by
    unfold Lt; rw [s1 y hy, s2]
    have := I.stT y hy
    show v.key n < v.key y ∨ (v.key n = v.key y ∧ g.T < g.st y) ↔ _
    omega
  -- what isn't marked behind p has a greater key
  have far : ∀ m, Nd v g b m → ¬ v.mkd m → Aft v g b p m → v.key n < v.key m := by
    intro m h1 h2 h3
    obtain ⟨k1, k2⟩ := I.adj hp hpu h1 h2 h3
    rw [htp] at k1 k2
    have hck' := hck.resolve_left k1
    rcases k2 with rfl | k2
    · exact hck'
    · unfold Lt at k2; omega
  have hcN : c ≠ 0 → Nd v g b c ∧ Aft v g b p c := fun h => by
    have := I.ptr b p hp
    rw [htp] at this
    obtain ⟨h1, h2, _⟩ := this.resolve_left h
    exact ⟨h1, h2⟩
  have aft : ∀ b' q m, Pn v g b' q → g.lk m → (Aft { v with nx := upd v.nx p (2 * n) } (g.more n) b' q m ↔ Aft v g b' q m) := by
    intro b' q m hq hm
    rcases hq with hq | hq
    · exact ⟨fun _ => .inl hq, fun _ => .inl hq⟩
    · exact ⟨fun h => h.imp id (l1 q m hq.1 hm).1, fun h => h.imp id (l1 q m hq.1 hm).2⟩
  have hNn : Nd { v with nx := upd v.nx p (2 * n) } (g.more n) b n := ⟨.inr rfl, hb⟩
  refine ⟨I.nb0, ?_, ?_, ?_, ?_, ?_, ?_, ?_, ?_, ?_, ?_, ?_, ?_, ?_, ?_, ?_⟩
  · rintro m (h | rfl)
    · exact I.big m h
    · exact hnb
  · rintro m (h | rfl)
    · rw [s1 m h]; have := I.stT m h; show _ < g.T + 1; omega
    · rw [s2]; show _ < g.T + 1; omega
  · rintro m (h | rfl)
    · rw [s1 m h]; exact I.st0 m h
    · rw [s2]; exact I.T0
  · show 0 ≤ g.T + 1
    have := I.T0; omega
  · rintro x y (hx | rfl) (hy | rfl) he
    · rw [s1 x hx, s1 y hy] at he; exact I.inj x y hx hy he
    · rw [s1 x hx, s2] at he; have := I.stT x hx; omega
    · rw [s1 y hy, s2] at he; have := I.stT y hy; omega
    · rfl
  · rintro m (h | rfl)
    · exact I.bkr m h
    · show 0 ≤ v.bk (v.key m) ∧ v.bk (v.key m) < v.nb
      rw [hb]; exact hr
  · intro b' q hq
    have old : Pn v g b' q ∨ (q = n ∧ b' = b) := by
      rcases hq with h | ⟨h | rfl, h2⟩
      · exact .inl (.inl h)
      · exact .inl (.inr ⟨h, h2⟩)
      · exact .inr ⟨rfl, h2.symm.trans hb⟩
    rcases old with ho | ⟨rfl, rfl⟩
    · by_cases e : q = p
      · subst e
        have hbb : b' = b := by
          rcases ho with h | h
          · rcases hp with k | k
            · have h1 := h.1; have k1 := k.1; omega
            · exact (I.nothd k.1 h).elim
          · rcases hp with k | k
            · exact (I.nothd h.1 k).elim
            · exact h.2.symm.trans k.2
        subst hbb
        rw [t2]
        refine .inr ⟨hNn, ?_, ?_⟩
        · rcases ho with h | h
          · exact .inl h
          · exact .inr ((l2 q h.1).2 (hpk h.1))
        · rintro m (h | rfl) a2 a3 a4
          · refine (m1 m).2 (Classical.byContradiction fun hu => ?_)
            have a2' : v.key m = v.key n := a2
            have := far m ⟨h, by rw [a2']; exact hb⟩ hu ((aft b' q m hp h).1 a3)
            omega
          · omega
      · rw [t1 q e]
        rcases I.ptr b' q ho with h | ⟨h1, h2, h3⟩
        · exact .inl h
        · refine .inr ⟨⟨.inl h1.1, h1.2⟩, (aft b' q _ ho h1.1).2 h2, ?_⟩
          rintro m (h | rfl) a2 a3 a4
          · rw [s1 m h, s1 _ h1.1] at a4
            exact (m1 m).2 (h3 m h a2 ((aft b' q m ho h).1 a3) a4)
          · rw [s2, s1 _ h1.1] at a4
            have := I.stT _ h1.1
            omega
    · rw [t1 q hne, htn]
      by_cases hc0 : c = 0
      · exact .inl hc0
      · have h := hck.resolve_left hc0
        obtain ⟨h1, h2⟩ := hcN hc0
        refine .inr ⟨⟨.inl h1.1, h1.2⟩, .inr ((l3 c h1.1).2 h), ?_⟩
        rintro m (h' | rfl) a2 a3 a4
        · refine (m1 m).2 (Classical.byContradiction fun hu => ?_)
          rw [s1 m h', s1 c h1.1] at a4
          have a2' : v.key m = v.key c := a2
          have ha : Aft v g b' p m := by
            rcases hp with k | k
            · exact .inl k
            · refine .inr (.inl ?_)
              have := hpk k.1
              omega
          obtain ⟨_, k2⟩ := I.adj hp hpu (m := m) ⟨h', by rw [a2']; exact h1.2⟩ hu ha
          rw [htp] at k2
          rcases k2 with rfl | k2
          · omega
          · unfold Lt at k2; omega
        · have a2' : v.key m = v.key c := a2
          omega
  · intro b' h1 h2
    show upd v.nx p (2 * n) (1 + b') % 2 = 0
    unfold upd; split
    · omega
    · exact I.hd b' h1 h2
  · intro b' h1 h2
    obtain ⟨L, hL, hall⟩ := I.chain b' h1 h2
    obtain ⟨hf, hs⟩ := path_facts I (.inl ⟨rfl, h1, h2⟩) hL
    by_cases hbb : b' = b
    · subst hbb
      have cut : ∀ B, VPath v p B → (∀ m ∈ B, g.lk m ∧ m ≠ p) → VPath { v with nx := upd v.nx p (2 * n) } p (n :: B) := by
        intro B hB hfB
        refine ⟨t2, fun e => ?_, path_other hB ((t1 n hne).trans (htn.trans htp.symm)) fun x hx => t1 x (hfB x hx).2⟩
        have := I.nb0; omega
      have mem : ∀ m, Nd { v with nx := upd v.nx p (2 * n) } (g.more n) b' m → ¬ Vw.mkd { v with nx := upd v.nx p (2 * n) } m → m ∈ L ∨ m = n := by
        rintro m ⟨h | rfl, h2⟩ hu
        · exact .inl (hall m ⟨h, h2⟩ fun k => hu ((m1 m).2 k))
        · exact .inr rfl
      rcases hp with hh | hh
      · obtain rfl : p = 1 + b' := hh.1
        refine ⟨n :: L, cut L hL fun m hm => ⟨(hf m hm).1.1, fun e => I.nothd (hf m hm).1.1 (e ▸ hh)⟩, fun m hm hu => ?_⟩
        rcases mem m hm hu with h | rfl
        · exact .tail _ h
        · exact .head _
      · have hpL := hall p hh hpu
        obtain ⟨A, B, rfl⟩ := List.append_of_mem hpL
        have hB := path_tail hL
        obtain ⟨hsA, hs2, hs3⟩ := List.pairwise_append.1 hs
        obtain ⟨hs4, hs5⟩ := List.pairwise_cons.1 hs2
        refine ⟨A ++ p :: (n :: B), path_swap hL (fun a ha => t1 a ?_) (cut B hB fun m hm => ⟨(hf m (List.mem_append.2 (.inr (.tail _ hm)))).1.1, fun e => by rw [e] at hm; exact (hs4 p hm).irrefl⟩), fun m hm hu => ?_⟩
        · rintro rfl
          rcases List.mem_cons.1 ha with e | ha
          · exact I.nothd hh.1 ⟨e, h1, h2⟩
          · exact (hs3 a ha a (.head _)).irrefl
        · rcases mem m hm hu with h | rfl
          · rcases List.mem_append.1 h with h | h
            · exact List.mem_append.2 (.inl h)
            · rcases List.mem_cons.1 h with rfl | h
              · exact List.mem_append.2 (.inr (.head _))
              · exact List.mem_append.2 (.inr (.tail _ (.tail _ h)))
          · exact List.mem_append.2 (.inr (.tail _ (.head _)))
    · refine ⟨L, path_congr hL fun a ha => t1 a ?_, ?_⟩
      · rintro rfl
        rcases List.mem_cons.1 ha with rfl | ha
        · rcases hp with k | k
          · have := k.1; omega
          · exact I.nothd k.1 ⟨rfl, h1, h2⟩
        · have k1 := (hf a ha).1
          rcases hp with k | k
          · exact I.nothd k1.1 k
          · exact hbb (k1.2.symm.trans k.2)
      · rintro m ⟨h | rfl, h3⟩ hu
        · exact hall m ⟨h, h3⟩ fun k => hu ((m1 m).2 k)
        · exact (hbb (h3.symm.trans hb)).elim
  · rintro hd m (h | rfl) hk
    · refine (I.dup hd m h ((m1 m).1 hk)).imp id ?_
      rintro ⟨k, a1, a2, a3⟩
      exact ⟨k, .inl a1, a2, by rw [s1 k a1, s1 m h]; exact a3⟩
    · exact (hnu ((m1 m).1 hk)).elim
  · rintro hd x y (hx | rfl) (hy | rfl) hk hs hw' hf
    · rw [s1 x hx, s1 y hy] at hs
      exact I.fst hd x y hx hy hk hs hw' fun k a1 a2 => by have := hf k (.inl a1) a2; rw [s1 k a1, s1 y hy] at this; exact this
    · exact (hw hd hw').elim
    · rw [s2, s1 y hy] at hs; have := I.stT y hy; omega
    · omega
  · rintro m (h | rfl)
    · exact I.isins m h
    · exact hi
  · rintro m (h | rfl)
    · exact I.opr m h
    · exact ho
  · exact I.wd0
  · intro o h1 h2
    obtain ⟨k, a1, a2⟩ := I.held o h1 h2
    exact ⟨k, .inl a1, a2⟩
end
end Go.Proofs.YtccmjljlfgbicaaGreat

/- A walker among others: what it may rely on, and what comes of each of its steps. Plain. -/
namespace Go.Proofs.YtccmjljlfgbicaaGreat

/-- A walk, as far as it has come (as numbers). -/
structure Wk where
  key : Int
  mode : Int
  phase : Int
  pred : Int
  curr : Int
  next : Int
  seen : Int

/-- What is known of a node that was passed. -/
def Passed (v : Vw) (d : Bool) (x : Wk) (m : Int) : Prop := (x.mode = 1 → v.wd (v.op m) ≠ 0 ∧ (d = true → 1 < v.wd (v.op m) ∨ v.op m = x.seen)) ∧ (x.mode = 2 → 1 < v.wd (v.op m))
/-- A walker at a node. -/
structure WI (v : Vw) (g : Gh) (b : Int) (x : Wk) (t0 : Int) : Prop where
  kb : v.bk x.key = b
  t0T : t0 ≤ g.T
  pn : Pn v g b x.pred
  pk : g.lk x.pred → v.key x.pred ≤ x.key
  cn : Nd v g b x.curr
  ck : v.key x.curr ≤ x.key
  pc : Aft v g b x.pred x.curr
  passed : ∀ m, g.lk m → v.key m = x.key → Lt v g m x.curr → ¬ v.mkd m → Passed v g.sd x m
  nxt : x.phase ≠ 1 → Ptr v g b x.curr (x.next / 2)
  skip : x.phase ≠ 1 → x.phase ≠ 2 → (x.next / 2 = 0 ∨ x.key < v.key (x.next / 2)) → ∀ m, g.lk m → v.key m = x.key → Lt v g x.curr m → g.st m < t0 → v.mkd m
  p2 : x.phase = 2 → v.nx x.curr = x.next ∧ x.next % 2 = 1
  p3 : x.phase ≠ 1 → x.phase ≠ 2 → x.next % 2 = 0
  seen : x.mode = 1 → x.seen ≠ -1 → v.wd x.seen ≠ 0 ∧ ∃ n, g.lk n ∧ v.op n = x.seen ∧ v.key n = x.key ∧ Lt v g n x.curr
  p4 : x.phase = 4 → 1 < v.wd (v.op x.curr) ∨ (x.mode = 1 ∧ x.seen ≠ -1 ∧ v.op x.curr = x.seen)
  p5 : x.phase = 5 → x.mode = 1 ∧ x.seen ≠ -1 ∧ v.key x.curr = x.key
  p6 : x.phase = 6 → x.mode = 1 ∧ x.seen = -1 ∧ v.key x.curr = x.key
  p7 : x.phase = 7 → x.mode = 1 ∧ v.key x.curr = x.key
/-- A walk that has come to its end. -/
structure WE (v : Vw) (g : Gh) (b : Int) (x : Wk) (t0 : Int) : Prop where
  kb : v.bk x.key = b
  t0T : t0 ≤ g.T
  pn : Pn v g b x.pred
  pk : g.lk x.pred → v.key x.pred ≤ x.key
  cn : x.curr = 0 ∨ (Nd v g b x.curr ∧ x.key < v.key x.curr)
  passed : ∀ m, g.lk m → v.key m = x.key → g.lk x.pred → (m = x.pred ∨ Lt v g m x.pred) → ¬ v.mkd m → Passed v g.sd x m
  all : ∀ m, g.lk m → v.key m = x.key → g.st m < t0 → ¬ v.mkd m → Passed v g.sd x m

/-- What others may do. -/
structure Grow (v : Vw) (g : Gh) (v' : Vw) (g' : Gh) : Prop where
  nb : v'.nb = v.nb
  bk : v'.bk = v.bk
  lk : ∀ n, g.lk n → g'.lk n
  op : ∀ n, g.lk n → v'.op n = v.op n
  ky : ∀ o, v.kd o ≠ 0 → v'.ky o = v.ky o
  kd : ∀ o, v.kd o ≠ 0 → v'.kd o = v.kd o
  st : ∀ n, g.lk n → g'.st n = g.st n
  new : ∀ n, g'.lk n → ¬ g.lk n → g.T ≤ g'.st n
  T : g.T ≤ g'.T
  sd : g'.sd = g.sd
  fz : ∀ n, g.lk n → v.mkd n → v'.nx n = v.nx n
  mark : ∀ n, g'.lk n → v'.mkd n → (g.lk n ∧ v.mkd n) ∨ v'.wd (v'.op n) ≠ 0
  wd : ∀ o, v'.wd o = v.wd o ∨ (v.wd o = 0 ∧ 0 < v'.wd o) ∨ (v.wd o = 1 ∧ 2 < v'.wd o ∧ v'.kd o = 1)

section
variable {v v' v'' : Vw} {g g' g'' : Gh}
theorem Grow.refl (v : Vw) (g : Gh) : Grow v g v g := ⟨rfl, rfl, fun _ h => h, fun _ _ => rfl, fun _ _ => rfl, fun _ _ => rfl, fun _ _ => rfl, fun _ h k => (k h).elim, Int.le_refl _, rfl, fun _ _ _ => rfl, fun _ h k => .inl ⟨h, k⟩, fun _ => .inl rfl⟩
theorem Grow.over (G : Grow v g v' g') {o : Int} (h : 1 < v.wd o) : 1 < v'.wd o := by
  rcases G.wd o with k | ⟨k, _⟩ | ⟨_, k, _⟩ <;> omega
theorem Grow.some (G : Grow v g v' g') {o : Int} (h : 0 < v.wd o) : 0 < v'.wd o := by
  rcases G.wd o with k | ⟨k, _⟩ | ⟨_, k, _⟩ <;> omega
theorem Grow.trans (G : Grow v g v' g') (I' : Inv v' g') (H : Grow v' g' v'' g'') : Grow v g v'' g'' := by
  refine ⟨H.nb.trans G.nb, H.bk.trans G.bk, fun n h => H.lk n (G.lk n h), fun n h => (H.op n (G.lk n h)).trans (G.op n h), fun o h => (H.ky o (by rw [G.kd o h]; exact h)).trans (G.ky o h), fun o h => (H.kd o (by rw [G.kd o h]; exact h)).trans (G.kd o h), fun n h => (H.st n (G.lk n h)).trans (G.st n h), ?_, Int.le_trans G.T H.T, H.sd.trans G.sd, ?_, ?_, ?_⟩
  · intro n h k
    by_cases e : g'.lk n
    · rw [H.st n e]; exact G.new n e k
    · exact Int.le_trans G.T (H.new n h e)
  · intro n h k
    have h1 := G.fz n h k
    have h2 : v'.mkd n := by unfold Vw.mkd at *; rw [h1]; exact k
    exact (H.fz n (G.lk n h) h2).trans h1
  · intro n h k
    rcases H.mark n h k with ⟨a, b⟩ | a
    · rcases G.mark n a b with c | c
      · exact .inl c
      · refine .inr ?_
        have h0 := I'.wd0 (v'.op n)
        have := H.some (o := v'.op n) (by omega)
        rw [H.op n a]; omega
    · exact .inr a
  · intro o
    have hk := H.kd o
    rcases G.wd o with a | ⟨a, a'⟩ | ⟨a, a', a''⟩ <;> rcases H.wd o with b | ⟨b, b'⟩ | ⟨b, b', b''⟩
    · exact .inl (by omega)
    · exact .inr (.inl (by omega))
    · exact .inr (.inr ⟨by omega, by omega, b''⟩)
    · exact .inr (.inl (by omega))
    · exact .inr (.inl (by omega))
    · exact .inr (.inl (by omega))
    · exact .inr (.inr ⟨by omega, by omega, by rw [hk (by omega)]; exact a''⟩)
    · omega
    · omega
variable (G : Grow v g v' g')
include G
theorem Grow.mkd' {n : Int} (h : g.lk n) (k : v.mkd n) : v'.mkd n := by unfold Vw.mkd at *; rw [G.fz n h k]; exact k
theorem Grow.to' {n : Int} (h : g.lk n) (k : v.mkd n) : v'.to n = v.to n := by unfold Vw.to; rw [G.fz n h k]
theorem Grow.ovr {n : Int} (h : g.lk n) (k : 1 < v.wd (v.op n)) : 1 < v'.wd (v'.op n) := by rw [G.op n h]; exact G.over k
theorem Grow.hd {b p : Int} : Hd v' b p ↔ Hd v b p := by unfold Hd; rw [G.nb]
theorem Grow.oldP (I' : Inv v' g') {b p : Int} (hp : Pn v g b p) (h : g'.lk p) : g.lk p := by
  rcases hp with hp | hp
  · exact (I'.nothd h (G.hd.2 hp)).elim
  · exact hp.1
variable (I : Inv v g)
include I
theorem Grow.key {n : Int} (h : g.lk n) : v'.key n = v.key n := by
  show v'.ky (v'.op n) = _
  rw [G.op n h]; exact G.ky _ (by rw [I.isins n h]; decide)
theorem Grow.lt {a b : Int} (ha : g.lk a) (hb : g.lk b) : Lt v' g' a b ↔ Lt v g a b := by
  unfold Lt; rw [G.key I ha, G.key I hb, G.st a ha, G.st b hb]
theorem Grow.nd {b n : Int} (h : Nd v g b n) : Nd v' g' b n := ⟨G.lk n h.1, by rw [G.bk, G.key I h.1]; exact h.2⟩
theorem Grow.pn {b p : Int} (h : Pn v g b p) : Pn v' g' b p := h.imp G.hd.2 (G.nd I)
theorem Grow.aft {b p m : Int} (hp : Pn v g b p) (hm : g.lk m) : Aft v' g' b p m ↔ Aft v g b p m := by
  rcases hp with hp | hp
  · exact ⟨fun _ => .inl hp, fun _ => .inl (G.hd.2 hp)⟩
  · unfold Aft; rw [G.hd, G.lt I hp.1 hm]
/-- What comes new has a later stamp: it is ahead of nothing of its key. -/
theorem Grow.fresh {a m : Int} (ha : g.lk a) (hm : g'.lk m) (hk : v.key a ≤ v'.key m) (h : Lt v' g' m a) : g.lk m := by
  refine Classical.byContradiction fun hn => ?_
  have h1 := G.new m hm hn
  have h2 := I.stT a ha
  have h3 := G.st a ha
  have h4 := G.key I ha
  unfold Lt at h
  omega
theorem Grow.ptr {b p q : Int} (hp : Pn v g b p) (h : Ptr v g b p q) : Ptr v' g' b p q := by
  rcases h with h | ⟨h1, h2, h3⟩
  · exact .inl h
  · refine .inr ⟨G.nd I h1, (G.aft I hp h1.1).2 h2, fun m a1 a2 a3 a4 => ?_⟩
    rw [G.st q h1.1] at a4
    have hm : g.lk m := Classical.byContradiction fun hn => by
      have := G.new m a1 hn
      have := I.stT q h1.1
      omega
    rw [G.st m hm] at a4
    rw [G.key I hm, G.key I h1.1] at a2
    exact G.mkd' hm (h3 m hm a2 ((G.aft I hp hm).1 a3) a4)
theorem Passed.grow {d : Bool} {x : Wk} {m : Int} (hm : g.lk m) (h : Passed v d x m) : Passed v' d x m := by
  unfold Passed at *
  rw [G.op m hm]
  refine ⟨fun e => ⟨?_, fun d => ((h.1 e).2 d).imp (G.over ·) id⟩, fun e => G.over (h.2 e)⟩
  have h0 := I.wd0 (v.op m)
  have h1 := (h.1 e).1
  have := G.some (o := v.op m) (by omega)
  omega
variable (I' : Inv v' g')
include I'
/-- What a walker relies on stays so. -/
theorem WI.grow {b t0 : Int} {x : Wk} (h : WI v g b x t0) : WI v' g' b x t0 := by
  have kc := G.key I h.cn.1
  refine ⟨by rw [G.bk]; exact h.kb, Int.le_trans h.t0T G.T, G.pn I h.pn, fun hl => ?_, G.nd I h.cn, by rw [kc]; exact h.ck, (G.aft I h.pn h.cn.1).2 h.pc, ?_, fun e => G.ptr I (.inr h.cn) (h.nxt e), ?_, fun e => ?_, h.p3, ?_, ?_, ?_, ?_, ?_⟩
  · have hl' := G.oldP I' h.pn hl
    rw [G.key I hl']; exact h.pk hl'
  · intro m a1 a2 a3 a4
    have hm := G.fresh I h.cn.1 a1 (by rw [a2]; exact h.ck) a3
    rw [G.key I hm] at a2
    rw [G.sd]
    exact Passed.grow G I hm (h.passed m hm a2 ((G.lt I hm h.cn.1).1 a3) fun k => a4 (G.mkd' hm k))
  · intro e1 e2 hq m a1 a2 a3 a4
    have hm : g.lk m := Classical.byContradiction fun hn => by
      have := G.new m a1 hn
      have := h.t0T
      omega
    rw [G.st m hm] at a4
    rw [G.key I hm] at a2
    have hq' : x.next / 2 = 0 ∨ x.key < v.key (x.next / 2) := by
      rcases h.nxt e1 with k | ⟨k, _⟩
      · exact .inl k
      · rw [G.key I k.1] at hq; exact hq
    exact G.mkd' hm (h.skip e1 e2 hq' m hm a2 ((G.lt I h.cn.1 hm).1 a3) a4)
  · obtain ⟨e1, e2⟩ := h.p2 e
    have hk : v.mkd x.curr := by unfold Vw.mkd; rw [e1]; exact e2
    exact ⟨(G.fz _ h.cn.1 hk).trans e1, e2⟩
  · intro e1 e2
    obtain ⟨a, n, b1, b2, b3, b4⟩ := h.seen e1 e2
    have h0 := I.wd0 x.seen
    have := G.some (o := x.seen) (by omega)
    exact ⟨by omega, n, G.lk n b1, (G.op n b1).trans b2, (G.key I b1).trans b3, (G.lt I b1 h.cn.1).2 b4⟩
  · intro e; rw [G.op _ h.cn.1]; exact (h.p4 e).imp (G.over ·) id
  · intro e; rw [kc]; exact h.p5 e
  · intro e; rw [kc]; exact h.p6 e
  · intro e; rw [kc]; exact h.p7 e
theorem WE.grow {b t0 : Int} {x : Wk} (h : WE v g b x t0) : WE v' g' b x t0 := by
  refine ⟨by rw [G.bk]; exact h.kb, Int.le_trans h.t0T G.T, G.pn I h.pn, fun hl => ?_, ?_, ?_, ?_⟩
  · have hl' := G.oldP I' h.pn hl
    rw [G.key I hl']; exact h.pk hl'
  · rcases h.cn with k | ⟨k1, k2⟩
    · exact .inl k
    · exact .inr ⟨G.nd I k1, by rw [G.key I k1.1]; exact k2⟩
  · intro m a1 a2 a3 a4 a5
    have hp := G.oldP I' h.pn a3
    have hm : g.lk m := by
      rcases a4 with rfl | a4
      · exact hp
      · exact G.fresh I hp a1 (by rw [a2]; exact h.pk hp) a4
    rw [G.key I hm] at a2
    rw [G.sd]
    exact Passed.grow G I hm (h.passed m hm a2 hp (a4.imp id (G.lt I hm hp).1) fun k => a5 (G.mkd' hm k))
  · intro m a1 a2 a3 a4
    have hm : g.lk m := Classical.byContradiction fun hn => by
      have := G.new m a1 hn
      have := h.t0T
      omega
    rw [G.st m hm] at a3
    rw [G.key I hm] at a2
    rw [G.sd]
    exact Passed.grow G I hm (h.all m hm a2 a3 fun k => a4 (G.mkd' hm k))
end
end Go.Proofs.YtccmjljlfgbicaaGreat

/- A walker's steps. Plain. -/
namespace Go.Proofs.YtccmjljlfgbicaaGreat

/-- To have come to a node. -/
def Came (v : Vw) (g : Gh) (b : Int) (x : Wk) (t0 : Int) : Prop :=
  ((x.curr = 0 ∨ x.key < v.key x.curr) ∧ WE v g b x t0) ∨ (¬ (x.curr = 0 ∨ x.key < v.key x.curr) ∧ WI v g b x t0)

section
variable {v : Vw} {g : Gh} {b t0 : Int} {x : Wk}

theorem wk_begin (I : Inv v g) (hb : 0 ≤ b ∧ b < v.nb) (hk : v.bk x.key = b) (hp : x.pred = 1 + b) (hc : x.curr = v.to (1 + b)) (hs : x.seen = -1) (h1 : x.phase = 1) : Came v g b x g.T := by
  have hh : Hd v b x.pred := ⟨hp, hb.1, hb.2⟩
  have hnl : ¬ g.lk x.pred := fun h => I.nothd h hh
  have hu : ¬ v.mkd x.pred := by rw [hp]; unfold Vw.mkd; have := I.hd b hb.1 hb.2; omega
  have hto : v.to x.pred = x.curr := by rw [hp]; exact hc.symm
  have adj : ∀ m, g.lk m → v.key m = x.key → ¬ v.mkd m → x.curr ≠ 0 ∧ (x.curr = m ∨ Lt v g x.curr m) := fun m a1 a2 a3 => by
    have := I.adj (.inl hh) hu (m := m) ⟨a1, by rw [a2]; exact hk⟩ a3 (.inl hh)
    rw [hto] at this; exact this
  have hptr := I.ptr b x.pred (.inl hh)
  rw [hto] at hptr
  by_cases hd : x.curr = 0 ∨ x.key < v.key x.curr
  · refine .inl ⟨hd, hk, Int.le_refl _, .inl hh, fun h => (hnl h).elim, ?_, fun m _ _ a3 => (hnl a3).elim, ?_⟩
    · rcases hptr with h | ⟨h, _⟩
      · exact .inl h
      · rcases hd with h' | h'
        · exact .inl h'
        · exact .inr ⟨h, h'⟩
    · intro m a1 a2 _ a4
      obtain ⟨k1, k2⟩ := adj m a1 a2 a4
      have hd' := hd.resolve_left k1
      rcases k2 with rfl | k2
      · omega
      · unfold Lt at k2; omega
  · have hd1 : x.curr ≠ 0 := fun e => hd (.inl e)
    obtain ⟨n1, n2, _⟩ := hptr.resolve_left hd1
    refine .inr ⟨hd, hk, Int.le_refl _, .inl hh, fun h => (hnl h).elim, n1, by omega, n2, ?_, fun e => (e h1).elim, fun e => (e h1).elim, fun e => by omega, fun e => (e h1).elim, fun _ e => (e hs).elim, fun e => by omega, fun e => by omega, fun e => by omega, fun e => by omega⟩
    intro m a1 a2 a3 a4
    obtain ⟨_, k2⟩ := adj m a1 a2 a4
    rcases k2 with rfl | k2
    · exact a3.irrefl.elim
    · exact (a3.asymm k2).elim

theorem wk_peek (I : Inv v g) (h : WI v g b x t0) {r p : Int} (hr : r = v.nx x.curr) (hp : (p = 2 ∧ r % 2 = 1) ∨ (p = 3 ∧ r % 2 = 0)) : WI v g b { x with next := r, phase := p } t0 := by
  subst hr
  refine ⟨h.kb, h.t0T, h.pn, h.pk, h.cn, h.ck, h.pc, h.passed, fun _ => I.ptr b x.curr (.inr h.cn), ?_, fun e => ?_, fun e1 e2 => ?_, h.seen, fun e => ?_, fun e => ?_, fun e => ?_, fun e => ?_⟩
  · intro e1 e2 hq m a1 a2 a3 a4
    refine Classical.byContradiction fun hu => ?_
    have e2' : p ≠ 2 := e2
    have a2' : v.key m = x.key := a2
    have hcu : ¬ v.mkd x.curr := by unfold Vw.mkd; omega
    obtain ⟨k1, k2⟩ := I.adj (.inr h.cn) hcu (m := m) ⟨a1, by rw [a2]; exact h.kb⟩ hu (.inr a3)
    have hq' : v.to x.curr = 0 ∨ x.key < v.key (v.to x.curr) := hq
    have hq'' := hq'.resolve_left k1
    rcases k2 with k2 | k2
    · rw [k2] at hq''; omega
    · unfold Lt at k2; omega
  · have e' : p = 2 := e
    exact ⟨rfl, by show v.nx x.curr % 2 = 1; omega⟩
  · have e1' : p ≠ 1 := e1
    have e2' : p ≠ 2 := e2
    show v.nx x.curr % 2 = 0
    omega
  all_goals
    first
      | (have e' : p = 4 := e; omega)
      | (have e' : p = 5 := e; omega)
      | (have e' : p = 6 := e; omega)
      | (have e' : p = 7 := e; omega)

theorem grow_nx {p r : Int} (hu : ¬ v.mkd p) (hr : r % 2 = 1 → v.wd (v.op p) ≠ 0) : Grow v g { v with nx := upd v.nx p r } g :=
  ⟨rfl, rfl, fun _ h => h, fun _ _ => rfl, fun _ _ => rfl, fun _ _ => rfl, fun _ _ => rfl, fun _ h k => (k h).elim, Int.le_refl _, rfl, fun _ _ k => upd_ne fun e => hu (e ▸ k), fun n h k => by
    have k' : upd v.nx p r n % 2 = 1 := k
    by_cases e : n = p
    · subst e; rw [upd_eq] at k'; exact .inr (hr k')
    · rw [upd_ne e] at k'; exact .inl ⟨h, k'⟩, fun _ => .inl rfl⟩

theorem wk_unlink (I : Inv v g) (h : WI v g b x t0) (h2 : x.phase = 2) (hs : v.nx x.pred = 2 * x.curr) :
    Inv { v with nx := upd v.nx x.pred (2 * (x.next / 2)) } g ∧ Grow v g { v with nx := upd v.nx x.pred (2 * (x.next / 2)) } g ∧ Came { v with nx := upd v.nx x.pred (2 * (x.next / 2)) } g b { x with curr := x.next / 2, phase := 1 } t0 := by
  obtain ⟨e1, e2⟩ := h.p2 h2
  have hm : v.mkd x.curr := by unfold Vw.mkd; rw [e1]; exact e2
  have hto : v.to x.curr = x.next / 2 := by unfold Vw.to; rw [e1]
  have hpu : ¬ v.mkd x.pred := by unfold Vw.mkd; omega
  have I' := I.unlink h.pn hs h.cn hm
  rw [hto] at I'
  have G : Grow v g { v with nx := upd v.nx x.pred (2 * (x.next / 2)) } g := grow_nx hpu (fun e => by omega)
  refine ⟨I', G, ?_⟩
  have hptr := I.ptr b x.curr (.inr h.cn)
  rw [hto] at hptr
  have m1 : ∀ n, (Vw.mkd { v with nx := upd v.nx x.pred (2 * (x.next / 2)) } n) ↔ v.mkd n := fun n => by
    show upd v.nx x.pred (2 * (x.next / 2)) n % 2 = 1 ↔ v.nx n % 2 = 1
    unfold upd; split
    · rename_i e; subst e; omega
    · exact Iff.rfl
  have hpu' : ¬ Vw.mkd { v with nx := upd v.nx x.pred (2 * (x.next / 2)) } x.pred := fun k => hpu ((m1 _).1 k)
  have hto' : Vw.to { v with nx := upd v.nx x.pred (2 * (x.next / 2)) } x.pred = x.next / 2 := by
    show upd v.nx x.pred (2 * (x.next / 2)) x.pred / 2 = _
    rw [upd_eq]; omega
  have adj : ∀ m, g.lk m → v.key m = x.key → ¬ v.mkd m → Lt v g x.curr m → x.next / 2 ≠ 0 ∧ (x.next / 2 = m ∨ Lt v g (x.next / 2) m) := fun m a1 a2 a3 a4 => by
    have := I'.adj (p := x.pred) (b := b) h.pn hpu' (m := m) ⟨a1, by show v.bk (v.key m) = b; rw [a2]; exact h.kb⟩ (fun k => a3 ((m1 m).1 k)) (h.pc.trans a4)
    rw [hto'] at this; exact this
  by_cases hd : x.next / 2 = 0 ∨ x.key < v.key (x.next / 2)
  · refine .inl ⟨hd, h.kb, h.t0T, h.pn, h.pk, ?_, ?_, ?_⟩
    · rcases hptr with k | ⟨k, _⟩
      · exact .inl k
      · rcases hd with k' | k'
        · exact .inl k'
        · exact .inr ⟨k, k'⟩
    · intro m a1 a2 a3 a4 a5
      have hl : Lt v g m x.curr := by
        have := I.aft_lt a3 h.pc
        rcases a4 with rfl | a4
        · exact this
        · exact Lt.trans (show Lt v g m x.pred from a4) this
      exact h.passed m a1 a2 hl fun k => a5 ((m1 m).2 k)
    · intro m a1 a2 a3 a4
      have a4' : ¬ v.mkd m := fun k => a4 ((m1 m).2 k)
      rcases I.tri a1 h.cn.1 with k | rfl | k
      · exact h.passed m a1 a2 k a4'
      · exact (a4' hm).elim
      · obtain ⟨k1, k2⟩ := adj m a1 a2 a4' k
        have hd' := hd.resolve_left k1
        have a2' : v.key m = x.key := a2
        rcases k2 with k2 | k2
        · rw [k2] at hd'; omega
        · unfold Lt at k2; omega
  · have hd1 : x.next / 2 ≠ 0 := fun e => hd (.inl e)
    obtain ⟨n1, n2, n3⟩ := hptr.resolve_left hd1
    have n2' := I.aft_lt h.cn.1 n2
    have hqk : v.key (x.next / 2) ≤ x.key := by
      have : ¬ x.key < v.key (x.next / 2) := fun e => hd (.inr e)
      omega
    refine .inr ⟨hd, h.kb, h.t0T, h.pn, h.pk, n1, hqk, h.pc.trans n2', ?_, fun e => (e rfl).elim, fun e => (e rfl).elim, fun e => ?_, fun e => (e rfl).elim, ?_, fun e => ?_, fun e => ?_, fun e => ?_, fun e => ?_⟩
    · intro m a1 a2 a3 a4
      have a4' : ¬ v.mkd m := fun k => a4 ((m1 m).2 k)
      have a2' : v.key m = x.key := a2
      have a3' : Lt v g m (x.next / 2) := a3
      rcases I.tri a1 h.cn.1 with k | rfl | k
      · exact h.passed m a1 a2 k a4'
      · exact (a4' hm).elim
      · refine (a4' (n3 m a1 ?_ (.inr k) ?_)).elim
        · unfold Lt at a3'; omega
        · unfold Lt at a3'; omega
    · have e' : (1 : Int) = 2 := e
      omega
    · intro a1 a2
      obtain ⟨k1, n, k2, k3, k4, k5⟩ := h.seen a1 a2
      exact ⟨k1, n, k2, k3, k4, Lt.trans (show Lt v g n x.curr from k5) n2'⟩
    · have e' : (1 : Int) = 4 := e
      omega
    · have e' : (1 : Int) = 5 := e
      omega
    · have e' : (1 : Int) = 6 := e
      omega
    · have e' : (1 : Int) = 7 := e
      omega

/-- Another phase, at the same node. -/
theorem WI.turn (h : WI v g b x t0) (h1 : x.phase ≠ 1) (h2 : x.phase ≠ 2) {p : Int} (k2 : p ≠ 2) (k4 : p = 4 → 1 < v.wd (v.op x.curr) ∨ (x.mode = 1 ∧ x.seen ≠ -1 ∧ v.op x.curr = x.seen)) (k5 : p = 5 → x.mode = 1 ∧ x.seen ≠ -1 ∧ v.key x.curr = x.key)
    (k6 : p = 6 → x.mode = 1 ∧ x.seen = -1 ∧ v.key x.curr = x.key) (k7 : p = 7 → x.mode = 1 ∧ v.key x.curr = x.key) : WI v g b { x with phase := p } t0 :=
  ⟨h.kb, h.t0T, h.pn, h.pk, h.cn, h.ck, h.pc, h.passed, fun _ => h.nxt h1, fun _ _ => h.skip h1 h2, fun e => (k2 e).elim, fun _ _ => h.p3 h1 h2, h.seen, k4, k5, k6, k7⟩

theorem wk_adv (I : Inv v g) (h : WI v g b x t0) (h3 : x.phase = 3) {sn : Int} (hc : v.key x.curr = x.key → Passed v g.sd { x with seen := sn } x.curr)
    (hp : ∀ m, g.lk m → v.key m = x.key → Lt v g m x.curr → ¬ v.mkd m → Passed v g.sd { x with seen := sn } m)
    (hs : x.mode = 1 → sn ≠ -1 → v.wd sn ≠ 0 ∧ ∃ n, g.lk n ∧ v.op n = sn ∧ v.key n = x.key ∧ (n = x.curr ∨ Lt v g n x.curr)) :
    Came v g b { x with pred := x.curr, curr := x.next / 2, phase := 1, seen := sn } t0 := by
  have hptr := h.nxt (by omega)
  have hpass : ∀ m, g.lk m → v.key m = x.key → (m = x.curr ∨ Lt v g m x.curr) → ¬ v.mkd m → Passed v g.sd { x with seen := sn } m := by
    intro m a1 a2 a3 a4
    rcases a3 with rfl | a3
    · exact hc a2
    · exact hp m a1 a2 a3 a4
  by_cases hd : x.next / 2 = 0 ∨ x.key < v.key (x.next / 2)
  · refine .inl ⟨hd, h.kb, h.t0T, .inr h.cn, fun _ => h.ck, ?_, fun m a1 a2 _ a4 a5 => hpass m a1 a2 a4 a5, ?_⟩
    · rcases hptr with k | ⟨k, _⟩
      · exact .inl k
      · rcases hd with k' | k'
        · exact .inl k'
        · exact .inr ⟨k, k'⟩
    · intro m a1 a2 a3 a4
      rcases I.tri a1 h.cn.1 with k | k | k
      · exact hpass m a1 a2 (.inr k) a4
      · exact hpass m a1 a2 (.inl k) a4
      · exact (a4 (h.skip (by omega) (by omega) hd m a1 a2 k a3)).elim
  · have hd1 : x.next / 2 ≠ 0 := fun e => hd (.inl e)
    obtain ⟨n1, n2, n3⟩ := hptr.resolve_left hd1
    have n2' := I.aft_lt h.cn.1 n2
    have hqk : v.key (x.next / 2) ≤ x.key := by
      have : ¬ x.key < v.key (x.next / 2) := fun e => hd (.inr e)
      omega
    refine .inr ⟨hd, h.kb, h.t0T, .inr h.cn, fun _ => h.ck, n1, hqk, .inr n2', ?_, fun e => (e rfl).elim, fun e => (e rfl).elim, fun e => ?_, fun e => (e rfl).elim, ?_, fun e => ?_, fun e => ?_, fun e => ?_, fun e => ?_⟩
    · intro m a1 a2 a3 a4
      have a2' : v.key m = x.key := a2
      have a3' : Lt v g m (x.next / 2) := a3
      rcases I.tri a1 h.cn.1 with k | k | k
      · exact hpass m a1 a2 (.inr k) a4
      · exact hpass m a1 a2 (.inl k) a4
      · refine (a4 (n3 m a1 ?_ (.inr k) ?_)).elim
        · unfold Lt at a3'; omega
        · unfold Lt at a3'; omega
    · have e' : (1 : Int) = 2 := e
      omega
    · intro a1 a2
      obtain ⟨k1, n, k2, k3, k4, k5⟩ := hs a1 a2
      refine ⟨k1, n, k2, k3, k4, ?_⟩
      rcases k5 with rfl | k5
      · exact n2'
      · exact k5.trans n2'
    · have e' : (1 : Int) = 4 := e
      omega
    · have e' : (1 : Int) = 5 := e
      omega
    · have e' : (1 : Int) = 6 := e
      omega
    · have e' : (1 : Int) = 7 := e
      omega

/-- An insert that is in, and another one than the one that was seen: all ahead of it is over. -/
theorem seen_next (I : Inv v g) (h : WI v g b x t0) (hm : x.mode = 1) (hk : v.key x.curr = x.key) (hw : v.wd (v.op x.curr) = 1) (hs : v.op x.curr ≠ x.seen) :
    ∀ m, g.lk m → v.key m = x.key → Lt v g m x.curr → ¬ v.mkd m → Passed v g.sd { x with seen := v.op x.curr } m := by
  intro m a1 a2 a3 a4
  have hp := h.passed m a1 a2 a3 a4
  refine ⟨fun e => ?_, hp.2⟩
  obtain ⟨k1, k2⟩ := hp.1 e
  refine ⟨k1, fun hd => ?_⟩
  by_cases ho : v.op m = v.op x.curr
  · exact .inr ho
  obtain ⟨f, f1, f2, f3, f4, f5, f6⟩ := I.first h.cn.1
  have hfu := f6 hd (by omega)
  have hfw : v.wd (v.op f) = 1 := by rw [f2]; exact hw
  -- the first node of what is in
  by_cases hfm : g.st m < g.st f
  · exact .inl (I.fst hd m f a1 f1 (by omega) hfm hfw fun k b1 b2 => f5 k b1 (b2.trans f2))
  · exfalso
    have hlt : Lt v g f x.curr := by
      unfold Lt at a3 ⊢
      have : g.st m < g.st x.curr := by omega
      omega
    obtain ⟨_, j⟩ := (h.passed f f1 (by omega) hlt hfu).1 hm
    have j := j hd
    rw [f2] at j
    omega

theorem wk_mark (I : Inv v g) (h : WI v g b x t0) (h4 : x.phase = 4) (hs : v.nx x.curr = x.next) :
    Inv { v with nx := upd v.nx x.curr (x.next + 1) } g ∧ Grow v g { v with nx := upd v.nx x.curr (x.next + 1) } g ∧ WI { v with nx := upd v.nx x.curr (x.next + 1) } g b { x with phase := 1 } t0 := by
  have he := h.p3 (by omega) (by omega)
  have hr : 1 < v.wd (v.op x.curr) ∨ ∃ n, g.lk n ∧ v.op n = v.op x.curr ∧ g.st n < g.st x.curr := by
    refine (h.p4 h4).imp id ?_
    rintro ⟨a1, a2, a3⟩
    obtain ⟨_, n, k1, k2, k3, k4⟩ := h.seen a1 a2
    have hkk : v.key n = v.key x.curr := by show v.ky (v.op n) = v.ky (v.op x.curr); rw [k2, a3]
    refine ⟨n, k1, k2.trans a3.symm, ?_⟩
    unfold Lt at k4; omega
  have I' := I.mark h.cn (by rw [hs]; exact he) hr
  rw [hs] at I'
  have hcu : ¬ v.mkd x.curr := by unfold Vw.mkd; omega
  have G : Grow v g { v with nx := upd v.nx x.curr (x.next + 1) } g := grow_nx hcu fun _ => by
    rcases h.p4 h4 with k | ⟨a1, a2, a3⟩
    · have := I.wd0 (v.op x.curr); omega
    · rw [a3]; exact (h.seen a1 a2).1
  refine ⟨I', G, ?_⟩
  have h1 : WI v g b { x with phase := 1 } t0 := ⟨h.kb, h.t0T, h.pn, h.pk, h.cn, h.ck, h.pc, h.passed, fun e => (e rfl).elim, fun e => (e rfl).elim, fun e => by have e' : (1 : Int) = 2 := e; omega, fun e => (e rfl).elim, h.seen, fun e => by have e' : (1 : Int) = 4 := e; omega, fun e => by have e' : (1 : Int) = 5 := e; omega, fun e => by have e' : (1 : Int) = 6 := e; omega, fun e => by have e' : (1 : Int) = 7 := e; omega⟩
  exact h1.grow G I I'
theorem wk_again (h : WI v g b x t0) : WI v g b { x with phase := 1 } t0 :=
  ⟨h.kb, h.t0T, h.pn, h.pk, h.cn, h.ck, h.pc, h.passed, fun e => (e rfl).elim, fun e => (e rfl).elim, fun e => by have e' : (1 : Int) = 2 := e; omega, fun e => (e rfl).elim, h.seen, fun e => by have e' : (1 : Int) = 4 := e; omega, fun e => by have e' : (1 : Int) = 5 := e; omega, fun e => by have e' : (1 : Int) = 6 := e; omega, fun e => by have e' : (1 : Int) = 7 := e; omega⟩

theorem wk_clear (I : Inv v g) (h : WI v g b x t0) (h5 : x.phase = 5) (hw : v.wd x.seen ≠ 1) : WI v g b { x with phase := 6, seen := -1 } t0 := by
  obtain ⟨q1, q2, q3⟩ := h.p5 h5
  refine ⟨h.kb, h.t0T, h.pn, h.pk, h.cn, h.ck, h.pc, ?_, fun _ => h.nxt (by omega), fun _ _ => h.skip (by omega) (by omega), fun e => by have e' : (6 : Int) = 2 := e; omega, fun _ _ => h.p3 (by omega) (by omega), fun _ e => (e rfl).elim, fun e => by have e' : (6 : Int) = 4 := e; omega, fun e => by have e' : (6 : Int) = 5 := e; omega, fun _ => ⟨q1, rfl, q3⟩, fun e => by have e' : (6 : Int) = 7 := e; omega⟩
  intro m a1 a2 a3 a4
  have hp := h.passed m a1 a2 a3 a4
  refine ⟨fun e => ?_, hp.2⟩
  obtain ⟨k1, k2⟩ := hp.1 e
  refine ⟨k1, fun hd => .inl ?_⟩
  rcases k2 hd with k2 | k2
  · exact k2
  · rw [k2] at k1 ⊢
    have := I.wd0 x.seen
    omega

theorem grow_wd {o y : Int} (h : (v.wd o = 0 ∧ 0 < y) ∨ (v.wd o = 1 ∧ 2 < y ∧ v.kd o = 1)) : Grow v g { v with wd := upd v.wd o y } g := by
  refine ⟨rfl, rfl, fun _ h => h, fun _ _ => rfl, fun _ _ => rfl, fun _ _ => rfl, fun _ _ => rfl, fun _ h k => (k h).elim, Int.le_refl _, rfl, fun _ _ _ => rfl, fun _ h k => .inl ⟨h, k⟩, fun a => ?_⟩
  show upd v.wd o y a = v.wd a ∨ (v.wd a = 0 ∧ 0 < upd v.wd o y a) ∨ (v.wd a = 1 ∧ 2 < upd v.wd o y a ∧ v.kd a = 1)
  unfold upd
  split
  · rename_i e; subst e; exact .inr h
  · exact .inl rfl

theorem wk_admit (I : Inv v g) (h : WI v g b x t0) (h6 : x.phase = 6) (hw : v.wd (v.op x.curr) = 0) :
    Inv { v with wd := upd v.wd (v.op x.curr) 1 } g ∧ Grow v g { v with wd := upd v.wd (v.op x.curr) 1 } g ∧ WI { v with wd := upd v.wd (v.op x.curr) 1 } g b { x with phase := 3 } t0 := by
  obtain ⟨q1, q2, q3⟩ := h.p6 h6
  have I' := I.admit h.cn.1 hw (by
    intro hd n a1 a2 a3 a4
    obtain ⟨_, k⟩ := (h.passed n a1 (a2.trans q3) (.inr ⟨a2, a3⟩) a4).1 q1
    rcases k hd with k | k
    · exact k
    · have := I.opr n a1; omega)
  have G : Grow v g { v with wd := upd v.wd (v.op x.curr) 1 } g := grow_wd (.inl ⟨hw, by omega⟩)
  have h3 : WI v g b { x with phase := 3 } t0 := h.turn (by omega) (by omega) (by omega) (fun e => by omega) (fun e => by omega) (fun e => by omega) (fun e => by omega)
  exact ⟨I', G, h3.grow G I I'⟩
theorem wk_refuse (I : Inv v g) (h : WI v g b x t0) (h7 : x.phase = 7) (hw : v.wd (v.op x.curr) = 0) :
    Inv { v with wd := upd v.wd (v.op x.curr) 2 } g ∧ Grow v g { v with wd := upd v.wd (v.op x.curr) 2 } g ∧ WI { v with wd := upd v.wd (v.op x.curr) 2 } g b { x with phase := 3 } t0 := by
  have I' := I.over (o := v.op x.curr) (x := 2) (by omega)
  have G : Grow v g { v with wd := upd v.wd (v.op x.curr) 2 } g := grow_wd (.inl ⟨hw, by omega⟩)
  have h3 : WI v g b { x with phase := 3 } t0 := h.turn (by omega) (by omega) (by omega) (fun e => by omega) (fun e => by omega) (fun e => by omega) (fun e => by omega)
  exact ⟨I', G, h3.grow G I I'⟩
end
end Go.Proofs.YtccmjljlfgbicaaGreat

/- Whether a chain is sound, node by node; it is where all is as it may be, and a laid chain that is sound is so. Plain. -/
namespace Go.Proofs.YtccmjljlfgbicaaGreat

/-- What was met on the way. -/
structure Snd where
  seen : List Int
  again : List Int
  opn : List Int
  last : Int
def addTo (l : List Int) (x : Int) : List Int := if x ∈ l then l else l ++ [x]
theorem mem_addTo {l : List Int} {x y : Int} : y ∈ addTo l x ↔ y ∈ l ∨ y = x := by
  unfold addTo; split
  · rename_i h
    exact ⟨.inl, fun k => k.elim id fun e => e ▸ h⟩
  · simp
def Vw.sndStep (v : Vw) (b : Int) (x : Snd) (n : Int) : Option Snd :=
  if v.kd (v.op n) ≠ 1 ∨ n ∈ x.seen ∨ v.key n < x.last ∨ v.bk (v.key n) ≠ b then none
  else if v.op n ∈ x.again ∨ 1 < v.wd (v.op n) then some ⟨x.seen ++ [n], addTo x.again (v.op n), x.opn, v.key n⟩
  else if v.nx n % 2 = 1 ∨ (v.wd (v.op n) = 1 ∧ v.key n ∈ x.opn) then none
  else some ⟨x.seen ++ [n], addTo x.again (v.op n), addTo x.opn (v.key n), v.key n⟩
def Vw.sndRun (v : Vw) (b : Int) : Snd → List Int → Bool
  | _, [] => true
  | x, n :: l => match v.sndStep b x n with
    | none => false
    | some y => v.sndRun b y l

/-- What is known behind some nodes. -/
structure SndAt (v : Vw) (A : List Int) (x : Snd) : Prop where
  seen : x.seen = A
  again : ∀ o, o ∈ x.again ↔ ∃ m ∈ A, v.op m = o
  opn : ∀ k, k ∈ x.opn ↔ ∃ m ∈ A, v.key m = k ∧ v.wd (v.op m) ≤ 1
  last : ∀ m ∈ A, v.key m ≤ x.last
  rise : x.last = 0 ∨ ∃ m ∈ A, x.last = v.key m

theorem sndAt_nil (v : Vw) : SndAt v [] ⟨[], [], [], 0⟩ := ⟨rfl, by simp, by simp, by simp, .inl rfl⟩
theorem sndAt_step {v : Vw} {b : Int} {A : List Int} {x y : Snd} {n : Int} (h : SndAt v A x) (hs : v.sndStep b x n = some y) :
    SndAt v (A ++ [n]) y ∧ v.kd (v.op n) = 1 ∧ n ∉ A ∧ (∀ m ∈ A, v.key m ≤ v.key n) ∧ v.bk (v.key n) = b ∧
      ((∃ m ∈ A, v.op m = v.op n) ∨ 1 < v.wd (v.op n) ∨ (v.nx n % 2 ≠ 1 ∧ (v.wd (v.op n) = 1 → ∀ m ∈ A, v.key m = v.key n → 1 < v.wd (v.op m)))) := by
  unfold Vw.sndStep at hs
  split at hs
  · cases hs
  rename_i h1
  have a1 : v.kd (v.op n) = 1 := Decidable.byContradiction fun e => h1 (.inl e)
  have a2 : n ∉ A := fun e => h1 (.inr (.inl (h.seen ▸ e)))
  have a3 : x.last ≤ v.key n := by
    have : ¬ v.key n < x.last := fun e => h1 (.inr (.inr (.inl e)))
    omega
  have a4 : v.bk (v.key n) = b := Decidable.byContradiction fun e => h1 (.inr (.inr (.inr e)))
  have a5 : ∀ m ∈ A, v.key m ≤ v.key n := fun m hm => Int.le_trans (h.last m hm) a3
  have ag : ∀ o, o ∈ addTo x.again (v.op n) ↔ ∃ m ∈ A ++ [n], v.op m = o := fun o => by
    rw [mem_addTo, h.again]
    constructor
    · rintro (⟨m, k1, k2⟩ | rfl)
      · exact ⟨m, List.mem_append.2 (.inl k1), k2⟩
      · exact ⟨n, by simp, rfl⟩
    · rintro ⟨m, k1, k2⟩
      rcases List.mem_append.1 k1 with k | k
      · exact .inl ⟨m, k, k2⟩
      · rw [List.mem_singleton.1 k] at k2; exact .inr k2.symm
  have la : ∀ m ∈ A ++ [n], v.key m ≤ v.key n := fun m hm => by
    rcases List.mem_append.1 hm with k | k
    · exact a5 m k
    · rw [List.mem_singleton.1 k]; exact Int.le_refl _
  have ri : v.key n = 0 ∨ ∃ m ∈ A ++ [n], v.key n = v.key m := .inr ⟨n, by simp, rfl⟩
  split at hs
  · rename_i h2
    injection hs with hs
    subst hs
    refine ⟨⟨by rw [h.seen], ag, fun k => ?_, la, ri⟩, a1, a2, a5, a4, ?_⟩
    · show k ∈ x.opn ↔ _
      rw [h.opn]
      constructor
      · rintro ⟨m, k1, k2⟩
        exact ⟨m, List.mem_append.2 (.inl k1), k2⟩
      · rintro ⟨m, k1, k2, k3⟩
        rcases List.mem_append.1 k1 with k | k
        · exact ⟨m, k, k2, k3⟩
        · have e := List.mem_singleton.1 k
          subst e
          rcases h2 with h2 | h2
          · obtain ⟨m', q1, q2⟩ := (h.again _).1 h2
            exact ⟨m', q1, by rw [← k2]; show v.ky (v.op m') = v.ky (v.op m); rw [q2], by rw [q2]; exact k3⟩
          · omega
    · rcases h2 with h2 | h2
      · exact .inl ((h.again _).1 h2)
      · exact .inr (.inl h2)
  · rename_i h2
    split at hs
    · cases hs
    rename_i h3
    injection hs with hs
    subst hs
    have hw : v.wd (v.op n) ≤ 1 := by
      have : ¬ 1 < v.wd (v.op n) := fun e => h2 (.inr e)
      omega
    refine ⟨⟨by rw [h.seen], ag, fun k => ?_, la, ri⟩, a1, a2, a5, a4, .inr (.inr ⟨fun e => h3 (.inl e), fun e m hm hk => ?_⟩)⟩
    · show k ∈ addTo x.opn (v.key n) ↔ _
      rw [mem_addTo, h.opn]
      constructor
      · rintro (⟨m, k1, k2⟩ | rfl)
        · exact ⟨m, List.mem_append.2 (.inl k1), k2⟩
        · exact ⟨n, by simp, rfl, hw⟩
      · rintro ⟨m, k1, k2, k3⟩
        rcases List.mem_append.1 k1 with k | k
        · exact .inl ⟨m, k, k2, k3⟩
        · rw [List.mem_singleton.1 k] at k2; exact .inr k2.symm
    · have : ¬ v.key n ∈ x.opn := fun q => h3 (.inr ⟨e, q⟩)
      rw [h.opn] at this
      have : ¬ v.wd (v.op m) ≤ 1 := fun q => this ⟨m, hm, hk, q⟩
      omega
/-- A chain that was found sound: what is known at each node. -/
theorem sndRun_facts {v : Vw} {b : Int} : ∀ {l A : List Int} {x : Snd}, SndAt v A x → v.sndRun b x l = true → ∀ C n D, l = C ++ n :: D → v.kd (v.op n) = 1 ∧ n ∉ A ++ C ∧ (∀ m ∈ A ++ C, v.key m ≤ v.key n) ∧ v.bk (v.key n) = b ∧
      ((∃ m ∈ A ++ C, v.op m = v.op n) ∨ 1 < v.wd (v.op n) ∨ (v.nx n % 2 ≠ 1 ∧ (v.wd (v.op n) = 1 → ∀ m ∈ A ++ C, v.key m = v.key n → 1 < v.wd (v.op m))))
  | [], A, x, _, _, C, n, D, e => by cases C <;> cases e
  | a :: l, A, x, h, hr, C, n, D, e => by
    unfold Vw.sndRun at hr
    cases hs : v.sndStep b x a with
    | none => rw [hs] at hr; cases hr
    | some y =>
      rw [hs] at hr
      have k := sndAt_step h hs
      cases C with
      | nil =>
        injection e with e1 e2
        subst e1
        rw [List.append_nil]
        exact k.2
      | cons c C =>
        injection e with e1 e2
        subst e1
        have := sndRun_facts k.1 hr C n D e2
        simpa using this

/-- Where all is as it may be a chain is sound. -/
theorem sndRun_of_inv {v : Vw} {g : Gh} (I : Inv v g) (hd : g.sd = true) {b : Int} {L : List Int} (hk : ∀ n ∈ L, 0 ≤ v.key n) (hn : ∀ m ∈ L, Nd v g b m) (hp : L.Pairwise (Lt v g)) (hu : ∀ m, Nd v g b m → ¬ v.mkd m → m ∈ L) :
    ∀ (B A : List Int) (x : Snd), L = A ++ B → SndAt v A x → v.sndRun b x B = true := by
  intro B
  induction B with
  | nil => intro A x _ _; rfl
  | cons n B ih =>
    intro A x e h
    have hnL : n ∈ L := by rw [e]; simp
    have hnn := hn n hnL
    have hp' := hp
    rw [e] at hp'
    obtain ⟨_, hp2, hp3⟩ := List.pairwise_append.1 hp'
    have before : ∀ m ∈ A, Lt v g m n := fun m hm => hp3 m hm n (.head _)
    have inA : ∀ m ∈ L, Lt v g m n → m ∈ A := fun m hm hl => by
      rw [e] at hm
      rcases List.mem_append.1 hm with k | k
      · exact k
      · rcases List.mem_cons.1 k with rfl | k
        · exact hl.irrefl.elim
        · exact (hl.asymm ((List.pairwise_cons.1 hp2).1 m k)).elim
    have h1 : ¬ (v.kd (v.op n) ≠ 1 ∨ n ∈ x.seen ∨ v.key n < x.last ∨ v.bk (v.key n) ≠ b) := by
      rintro (k | k | k | k)
      · exact k (I.isins n hnn.1)
      · rw [h.seen] at k; exact (before n k).irrefl
      · rcases h.rise with r | ⟨m, hm, r⟩
        · have := hk n hnL; omega
        · have := before m hm; unfold Lt at this; omega
      · exact k hnn.2
    have key : ∃ y, v.sndStep b x n = some y := by
      unfold Vw.sndStep
      rw [if_neg h1]
      split
      · exact ⟨_, rfl⟩
      rename_i h2
      have hw : v.wd (v.op n) ≤ 1 := by
        have : ¬ 1 < v.wd (v.op n) := fun q => h2 (.inr q)
        omega
      obtain ⟨f, f1, f2, f3, f4, f5, f6⟩ := I.first hnn.1
      have hfu := f6 hd hw
      have hfL : f ∈ L := hu f ⟨f1, by rw [f3]; exact hnn.2⟩ hfu
      have hfn : f = n := by
        rcases I.tri f1 hnn.1 with k | k | k
        · exact (h2 (.inl ((h.again _).2 ⟨f, inA f hfL k, f2⟩))).elim
        · exact k
        · unfold Lt at k; omega
      subst hfn
      rw [if_neg]
      · exact ⟨_, rfl⟩
      · rintro (k | ⟨k1, k2⟩)
        · exact hfu k
        · obtain ⟨m, q1, q2, q3⟩ := (h.opn _).1 k2
          have hmL : m ∈ L := by rw [e]; exact List.mem_append.2 (.inl q1)
          have hl := before m q1
          have := I.fst hd m f (hn m hmL).1 f1 q2 (by unfold Lt at hl; omega) k1 fun k a b' => f5 k a b'
          omega
    obtain ⟨y, hy⟩ := key
    unfold Vw.sndRun
    rw [hy]
    exact ih (A ++ [n]) y (by rw [e]; simp) (sndAt_step h hy).1

/-- A laid chain. -/
structure LaidV (v : Vw) (j : Nat) : Prop where
  nb : v.nb = 1
  bk : ∀ k, v.bk k = 0
  hd : v.nx 1 % 2 = 0
  to : ∀ t : Nat, t < j → v.to (1 + t) = 2 + t
  end_ : v.to (1 + j) = 0
  opr : ∀ t : Nat, t < j → 0 ≤ v.op (2 + t)
  ins : ∀ t : Nat, t < j → v.kd (v.op (2 + t)) = 1
  rise : ∀ t : Nat, t + 1 < j → v.key (2 + t) ≤ v.key (3 + t)
  wd0 : ∀ o, 0 ≤ v.wd o
  held : ∀ o, v.kd o = 1 → v.wd o = 1 → ∃ t : Nat, t < j ∧ v.op (2 + t) = o
def laidL : Nat → Nat → List Int
  | _, 0 => []
  | t, k + 1 => (2 + t : Int) :: laidL (t + 1) k
theorem laidL_len (t k : Nat) : (laidL t k).length = k := by
  induction k generalizing t with
  | zero => rfl
  | succ k ih => unfold laidL; simp [ih]
theorem laidL_mem {k t : Nat} {n : Int} : n ∈ laidL t k ↔ 2 + (t : Int) ≤ n ∧ n < 2 + t + k := by
  induction k generalizing t with
  | zero => unfold laidL; simp
  | succ k ih => unfold laidL; rw [List.mem_cons, ih]; omega
theorem laidL_split {k t i : Nat} (h : i < k) : laidL t k = laidL t i ++ (2 + t + i : Int) :: laidL (t + i + 1) (k - i - 1) := by
  induction i generalizing t k with
  | zero =>
    obtain ⟨k, rfl⟩ : ∃ k', k = k' + 1 := ⟨k - 1, by omega⟩
    simp [laidL]
  | succ i ih =>
    obtain ⟨k, rfl⟩ : ∃ k', k = k' + 1 := ⟨k - 1, by omega⟩
    have := ih (t := t + 1) (k := k) (by omega)
    show (2 + t : Int) :: laidL (t + 1) k = (2 + t : Int) :: laidL (t + 1) i ++ _
    rw [this]
    rw [List.cons_append, show ((t + 1 : Nat) : Int) = t + 1 from rfl, show (2 : Int) + (t + 1) + i = 2 + t + (i + 1 : Nat) by omega, show t + 1 + i + 1 = t + (i + 1) + 1 by omega, show k + 1 - (i + 1) - 1 = k - i - 1 by omega]
def laidG (j : Nat) (d : Bool) : Gh := { lk := fun n => 2 ≤ n ∧ n < 2 + j, st := fun n => n - 2, T := j, sd := d }
theorem laid_path {v : Vw} {j : Nat} (h : LaidV v j) : ∀ (k t : Nat), t + k = j → VPath v (1 + t) (laidL t k)
  | 0, t, e => by unfold laidL VPath; have := h.end_; rw [← e] at this; simpa using this
  | k + 1, t, e => by
    unfold laidL VPath
    refine ⟨h.to t (by omega), by omega, ?_⟩
    have := laid_path h k (t + 1) (by omega)
    rw [show (1 + (t + 1 : Nat) : Int) = 2 + t by omega] at this
    exact this

theorem LaidV.rise' {v : Vw} {j : Nat} (h : LaidV v j) {a : Nat} : ∀ {b : Nat}, a ≤ b → b < j → v.key (2 + a) ≤ v.key (2 + b)
  | 0, h1, h2 => by rw [show a = 0 by omega]; exact Int.le_refl _
  | b + 1, h1, h2 => by
    by_cases e : a = b + 1
    · rw [e]; exact Int.le_refl _
    · have := h.rise' (a := a) (b := b) (by omega) (by omega)
      have k := h.rise b h2
      rw [show (3 + b : Int) = 2 + (b + 1 : Nat) by omega] at k
      exact Int.le_trans this k
/-- A laid chain is as it may be; if it is sound, the more so. -/
theorem inv_of_laid {v : Vw} {j : Nat} (h : LaidV v j) (d : Bool) (hs : d = true → v.sndRun 0 ⟨[], [], [], 0⟩ (laidL 0 j) = true) : Inv v (laidG j d) := by
  have F : d = true → ∀ i : Nat, i < j → _ := fun hd i hi => sndRun_facts (sndAt_nil v) (hs hd) (laidL 0 i) (2 + i) (laidL (i + 1) (j - i - 1)) (by have := laidL_split (t := 0) hi; simpa using this)
  simp only [List.nil_append] at F
  have R : ∀ i : Nat, i < j → ∀ m, m ∈ laidL 0 i → v.key m ≤ v.key (2 + i) := fun i hi m hm => by
    rw [laidL_mem] at hm
    have := h.rise' (a := (m - 2).toNat) (b := i) (by omega) hi
    rw [show (2 : Int) + ((m - 2).toNat : Nat) = m by omega] at this
    exact this
  have idx : ∀ n : Int, (laidG j d).lk n → ∃ i : Nat, i < j ∧ n = 2 + i := fun n hn => ⟨(n - 2).toNat, by have := hn.1; have := hn.2; omega, by have := hn.1; omega⟩
  have bef : ∀ i : Nat, ∀ m, m ∈ laidL 0 i ↔ 2 ≤ m ∧ m < 2 + i := fun i m => by rw [laidL_mem]; omega
  refine ⟨by rw [h.nb]; decide, fun n hn => by rw [h.nb]; have := hn.1; omega, fun n hn => by show n - 2 < j; have := hn.2; omega, fun n hn => by show 0 ≤ n - 2; have := hn.1; omega, by show (0 : Int) ≤ j; omega, fun n m _ _ e => by have e' : n - 2 = m - 2 := e; omega, fun n _ => by rw [h.bk, h.nb]; decide, ?_, ?_, ?_, ?_, ?_, ?_, ?_, h.wd0, ?_⟩
  · intro b p hp
    have hb : b = 0 := by
      rcases hp with ⟨_, k1, k2⟩ | ⟨_, k⟩
      · rw [h.nb] at k2; omega
      · rw [h.bk] at k; exact k.symm
    subst hb
    obtain ⟨t, ht, rfl⟩ : ∃ t : Nat, t ≤ j ∧ p = 1 + t := by
      rcases hp with ⟨k, _⟩ | ⟨⟨k1, k2⟩, _⟩
      · exact ⟨0, by omega, by rw [k]; rfl⟩
      · exact ⟨(p - 1).toNat, by omega, by omega⟩
    by_cases e : t < j
    · rw [h.to t e]
      refine .inr ⟨⟨⟨by omega, by omega⟩, h.bk _⟩, ?_, ?_⟩
      · by_cases e0 : t = 0
        · subst e0; exact .inl ⟨rfl, by decide, by rw [h.nb]; decide⟩
        · refine .inr ?_
          have k := R t e (1 + t) ((bef t _).2 (by omega))
          have s1 : (laidG j d).st (1 + t) = 1 + t - 2 := rfl
          have s2 : (laidG j d).st (2 + t) = 2 + t - 2 := rfl
          unfold Lt
          rw [s1, s2]; omega
      · intro m hm hk ha hst
        have hst' : m - 2 < 2 + (t : Int) - 2 := hst
        rcases ha with ⟨k, _⟩ | k
        · exfalso; have := hm.1; omega
        · exfalso
          have k' : v.key (1 + t) < v.key m ∨ (v.key (1 + t) = v.key m ∧ 1 + (t : Int) - 2 < m - 2) := k
          obtain ⟨i, rfl⟩ : ∃ i : Nat, t = i + 1 := ⟨t - 1, by have := hm.1; omega⟩
          have k1 := R i (by omega) m
          have e2 : (2 + i : Int) = 1 + (i + 1 : Nat) := by omega
          rw [e2] at k1
          by_cases e3 : m = 1 + ((i + 1 : Nat) : Int)
          · rw [← e3] at k'; omega
          · have := k1 ((bef i _).2 ⟨hm.1, by omega⟩); omega
    · have : t = j := by omega
      subst this
      exact .inl h.end_
  · intro b h1 h2
    have : b = 0 := by rw [h.nb] at h2; omega
    subst this
    exact h.hd
  · intro b h1 h2
    have : b = 0 := by rw [h.nb] at h2; omega
    subst this
    exact ⟨laidL 0 j, laid_path h j 0 (by omega), fun m hm _ => (bef j m).2 hm.1⟩
  · intro hd m hm hk
    obtain ⟨i, hi, rfl⟩ := idx m hm
    rcases (F hd i hi).2.2.2.2 with ⟨n, q1, q2⟩ | q | ⟨q, _⟩
    · have := (bef i n).1 q1
      exact .inr ⟨n, ⟨by omega, by omega⟩, q2, by show n - 2 < 2 + (i : Int) - 2; omega⟩
    · exact .inl q
    · exact (q hk).elim
  · intro hd n m hn hm hk hst hw hf
    obtain ⟨i, hi, rfl⟩ := idx m hm
    have hst' : n - 2 < 2 + (i : Int) - 2 := hst
    rcases (F hd i hi).2.2.2.2 with ⟨q, q1, q2⟩ | q | ⟨_, q⟩
    · have hq := (bef i q).1 q1
      have := hf q ⟨by omega, by omega⟩ q2
      have this' : 2 + (i : Int) - 2 ≤ q - 2 := this
      omega
    · omega
    · exact q hw n ((bef i n).2 ⟨hn.1, by omega⟩) hk
  · intro n hn
    obtain ⟨i, hi, rfl⟩ := idx n hn
    exact h.ins i hi
  · intro n hn
    obtain ⟨i, hi, rfl⟩ := idx n hn
    exact h.opr i hi
  · intro o h1 h2
    obtain ⟨t, ht, e⟩ := h.held o h1 h2
    exact ⟨2 + t, ⟨by omega, by omega⟩, e⟩
end Go.Proofs.YtccmjljlfgbicaaGreat

/- The pairs of a chain: a rising list of what is in. Plain. -/
namespace Go.Proofs.YtccmjljlfgbicaaGreat

abbrev Vw.inn (v : Vw) (o : Int) : Prop := v.kd o = 1 ∧ v.wd o = 1
/-- The pairs of some nodes, where some operations were met. -/
def Vw.prsRun (v : Vw) (vl : Int → Int) : List Int → List Int → List (Int × Int)
  | _, [] => []
  | once, n :: l => if v.inn (v.op n) ∧ v.op n ∉ once then (v.key n, vl (v.op n)) :: v.prsRun vl (once ++ [v.op n]) l else v.prsRun vl once l
/-- A list of pairs whose keys rise. -/
abbrev Rising (l : List (Int × Int)) : Prop := l.Pairwise fun a b => a.1 < b.1

theorem rising_ext {l m : List (Int × Int)} (hl : Rising l) (hm : Rising m) (h : ∀ p, p ∈ l ↔ p ∈ m) : l = m := by
  induction l generalizing m with
  | nil =>
    cases m with
    | nil => rfl
    | cons a m => have := (h a).2 (.head _); cases this
  | cons a l ih =>
    cases m with
    | nil => have := (h a).1 (.head _); cases this
    | cons b m =>
      obtain ⟨h1, h2⟩ := List.pairwise_cons.1 hl
      obtain ⟨k1, k2⟩ := List.pairwise_cons.1 hm
      have e : a = b := by
        rcases List.mem_cons.1 ((h a).1 (.head _)) with e | e
        · exact e
        · rcases List.mem_cons.1 ((h b).2 (.head _)) with e' | e'
          · exact e'.symm
          · have := h1 b e'; have := k1 a e; omega
      subst e
      rw [ih h2 k2 fun p => ?_]
      constructor
      · intro hp
        rcases List.mem_cons.1 ((h p).1 (.tail _ hp)) with rfl | q
        · have := h1 p hp; omega
        · exact q
      · intro hp
        rcases List.mem_cons.1 ((h p).2 (.tail _ hp)) with rfl | q
        · have := k1 p hp; omega
        · exact q
theorem rising_key {l : List (Int × Int)} (hl : Rising l) {p q : Int × Int} (hp : p ∈ l) (hq : q ∈ l) (e : p.1 = q.1) : p = q := by
  induction l with
  | nil => cases hp
  | cons a l ih =>
    obtain ⟨h1, h2⟩ := List.pairwise_cons.1 hl
    rcases List.mem_cons.1 hp with e1 | hp1 <;> rcases List.mem_cons.1 hq with e2 | hq1
    · rw [e1, e2]
    · have := h1 q hq1; rw [← e1] at this; omega
    · have := h1 p hp1; rw [← e2] at this; omega
    · exact ih h2 hp1 hq1

/-- Into its place. -/
def insPair (l : List (Int × Int)) (p : Int × Int) : List (Int × Int) := l.takeWhile (fun q => decide (q.1 ≤ p.1)) ++ p :: l.dropWhile (fun q => decide (q.1 ≤ p.1))
def isort (l : List (Int × Int)) : List (Int × Int) := l.foldl insPair []
theorem tw_all {α : Type} {f : α → Bool} {l : List α} (h : ∀ q ∈ l, f q = true) : l.takeWhile f = l ∧ l.dropWhile f = [] := by
  induction l with
  | nil => exact ⟨rfl, rfl⟩
  | cons a l ih =>
    have ha := h a (.head _)
    obtain ⟨i1, i2⟩ := ih fun q hq => h q (.tail _ hq)
    simp [List.takeWhile, List.dropWhile, ha, i1, i2]
theorem insPair_end {l : List (Int × Int)} {p : Int × Int} (h : ∀ q ∈ l, q.1 ≤ p.1) : insPair l p = l ++ [p] := by
  unfold insPair
  obtain ⟨h1, h2⟩ := tw_all (f := fun q : Int × Int => decide (q.1 ≤ p.1)) (l := l) fun q hq => decide_eq_true (h q hq)
  rw [h1, h2]
theorem isort_fold {l : List (Int × Int)} : ∀ {acc : List (Int × Int)}, (acc ++ l).Pairwise (fun a b => a.1 ≤ b.1) → l.foldl insPair acc = acc ++ l := by
  induction l with
  | nil => intro acc _; simp
  | cons a l ih =>
    intro acc h
    have h' := List.pairwise_append.1 h
    rw [List.foldl_cons, insPair_end fun q hq => h'.2.2 q hq a (.head _), ih (by simpa using h)]
    simp
theorem isort_sorted {l : List (Int × Int)} (h : l.Pairwise fun a b => a.1 ≤ b.1) : isort l = l := by
  unfold isort; rw [isort_fold (by simpa using h)]; rfl
theorem isort_rising {l : List (Int × Int)} (h : Rising l) : isort l = l := isort_sorted (h.imp fun h => by omega)

section
variable {v : Vw} {g : Gh} {b : Int} {L : List Int} {vl : Int → Int}
/-- Of a key one is in at most. -/
theorem Inv.one_in (I : Inv v g) (hd : g.sd = true) {o o' : Int} (h : v.inn o) (h' : v.inn o') (hk : v.ky o = v.ky o') : o = o' := by
  have key : ∀ a a', v.inn a → v.inn a' → v.ky a = v.ky a' → ∀ f f', g.lk f → g.lk f' → v.op f = a → v.op f' = a' → (∀ k, g.lk k → v.op k = a' → g.st f' ≤ g.st k) → ¬ g.st f < g.st f' := by
    intro a a' ha ha' hk f f' hf hf' e e' hm hlt
    have := I.fst hd f f' hf hf' (by show v.ky (v.op f) = v.ky (v.op f'); rw [e, e']; exact hk) hlt (by rw [e']; exact ha'.2) fun k h1 h2 => hm k h1 (by rw [h2, e'])
    rw [e, ha.2] at this; omega
  obtain ⟨n, n1, n2⟩ := I.held o h.1 h.2
  obtain ⟨n', n1', n2'⟩ := I.held o' h'.1 h'.2
  obtain ⟨f, f1, f2, _, _, f5, _⟩ := I.first n1
  obtain ⟨f', f1', f2', _, _, f5', _⟩ := I.first n1'
  rw [n2] at f2 f5
  rw [n2'] at f2' f5'
  have h1 := key o o' h h' hk f f' f1 f1' f2 f2' f5'
  have h2 := key o' o h' h hk.symm f' f f1' f1 f2' f2 f5
  have h3 := I.inj f f' f1 f1' (by omega)
  rw [h3, f2'] at f2
  exact f2.symm

theorem prs_mem {p : Int × Int} : ∀ {B once : List Int}, p ∈ v.prsRun vl once B ↔ ∃ n ∈ B, v.inn (v.op n) ∧ v.op n ∉ once ∧ p = (v.key n, vl (v.op n))
  | [], once => by simp [Vw.prsRun]
  | n :: B, once => by
    unfold Vw.prsRun
    split
    · rename_i h
      rw [List.mem_cons, prs_mem (B := B)]
      constructor
      · rintro (rfl | ⟨m, h1, h2, h3, h4⟩)
        · exact ⟨n, .head _, h.1, h.2, rfl⟩
        · exact ⟨m, .tail _ h1, h2, fun q => h3 (List.mem_append.2 (.inl q)), h4⟩
      · rintro ⟨m, h1, h2, h3, h4⟩
        by_cases e : v.op m = v.op n
        · refine .inl ?_
          rw [h4]; show (v.ky (v.op m), vl (v.op m)) = (v.ky (v.op n), vl (v.op n)); rw [e]
        · rcases List.mem_cons.1 h1 with rfl | h1
          · exact (e rfl).elim
          · refine .inr ⟨m, h1, h2, fun q => ?_, h4⟩
            rcases List.mem_append.1 q with q | q
            · exact h3 q
            · exact e (List.mem_singleton.1 q)
    · rename_i h
      rw [prs_mem (B := B)]
      constructor
      · rintro ⟨m, h1, h2⟩; exact ⟨m, .tail _ h1, h2⟩
      · rintro ⟨m, h1, h2, h3, h4⟩
        rcases List.mem_cons.1 h1 with rfl | h1
        · exact (h ⟨h2, h3⟩).elim
        · exact ⟨m, h1, h2, h3, h4⟩
theorem prs_rising (I : Inv v g) (hd : g.sd = true) : ∀ {B once : List Int}, (∀ m ∈ B, g.lk m) → B.Pairwise (Lt v g) → Rising (v.prsRun vl once B)
  | [], once, _, _ => .nil
  | n :: B, once, hm, hp => by
    obtain ⟨h1, h2⟩ := List.pairwise_cons.1 hp
    unfold Vw.prsRun
    split
    · rename_i h
      refine .cons ?_ (prs_rising I hd (fun m q => hm m (.tail _ q)) h2)
      intro p hq
      obtain ⟨m, m1, m2, m3, rfl⟩ := prs_mem.1 hq
      show v.key n < v.key m
      have hl := h1 m m1
      rcases Int.lt_trichotomy (v.key n) (v.key m) with q | q | q
      · exact q
      · exact (m3 (List.mem_append.2 (.inr (List.mem_singleton.2 (I.one_in hd m2 h.1 q.symm))))).elim
      · unfold Lt at hl; omega
    · exact prs_rising I hd (fun m q => hm m (.tail _ q)) h2
/-- The pairs of a bucket's chain are those of the operations that are in. -/
theorem prs_iff (I : Inv v g) (hd : g.sd = true) (hn : ∀ m ∈ L, Nd v g b m) (hu : ∀ m, Nd v g b m → ¬ v.mkd m → m ∈ L) (p : Int × Int) : p ∈ v.prsRun vl [] L ↔ ∃ o, v.inn o ∧ v.bk (v.ky o) = b ∧ p = (v.ky o, vl o) := by
  rw [prs_mem]
  constructor
  · rintro ⟨n, h1, h2, _, h4⟩
    exact ⟨v.op n, h2, (hn n h1).2, h4⟩
  · rintro ⟨o, h1, h2, h3⟩
    obtain ⟨n, n1, n2⟩ := I.held o h1.1 h1.2
    obtain ⟨f, f1, f2, f3, _, _, f6⟩ := I.first n1
    rw [n2] at f2
    have hu' := f6 hd (by rw [n2, h1.2]; decide)
    exact ⟨f, hu f ⟨f1, by show v.bk (v.ky (v.op f)) = b; rw [f2]; exact h2⟩ hu', by rw [f2]; exact h1, by simp, by rw [h3]; show _ = (v.ky (v.op f), vl (v.op f)); rw [f2]⟩
end
end Go.Proofs.YtccmjljlfgbicaaGreat

/- Pairs as cells, and how they are sorted. Plain. -/
namespace Go.Proofs.YtccmjljlfgbicaaGreat

def pairsV (l : List (Int × Int)) : List Value := l.flatMap fun p => [.int .u64 p.1, .int .u64 p.2]
theorem pairsV_cons (p : Int × Int) (l : List (Int × Int)) : pairsV (p :: l) = .int .u64 p.1 :: .int .u64 p.2 :: pairsV l := rfl
theorem pairsV_append (l m : List (Int × Int)) : pairsV (l ++ m) = pairsV l ++ pairsV m := by simp [pairsV]
theorem pairsV_len (l : List (Int × Int)) : (pairsV l).length = l.length * 2 := by
  induction l with
  | nil => rfl
  | cons p l ih => rw [pairsV_cons]; simp only [List.length_cons, ih]; omega
theorem pairsV_one (l : List (Int × Int)) : ∀ u ∈ pairsV l, u.oneCell' = true := by
  intro u hu
  unfold pairsV at hu
  rw [List.mem_flatMap] at hu
  obtain ⟨p, _, h⟩ := hu
  simp at h
  rcases h with rfl | rfl <;> rfl
theorem pairsV_get {l : List (Int × Int)} {n : Nat} {p : Int × Int} (h : l[n]? = some p) : (pairsV l)[n * 2]? = some (.int .u64 p.1) ∧ (pairsV l)[n * 2 + 1]? = some (.int .u64 p.2) := by
  induction l generalizing n with
  | nil => simp at h
  | cons a l ih =>
    cases n with
    | zero =>
      simp at h
      subst h
      exact ⟨rfl, rfl⟩
    | succ n =>
      simp at h
      obtain ⟨i0, i1⟩ := ih h
      rw [pairsV_cons, show (n + 1) * 2 = n * 2 + 1 + 1 by omega]
      exact ⟨by simpa using i0, by simpa using i1⟩

abbrev SortedP (l : List (Int × Int)) : Prop := l.Pairwise fun a b => a.1 ≤ b.1
theorem drop_gt {l : List (Int × Int)} {k : Int} (h : SortedP l) : ∀ q ∈ l.dropWhile (fun q => decide (q.1 ≤ k)), k < q.1 := by
  induction l with
  | nil => simp
  | cons a l ih =>
    intro q hq
    have h := List.pairwise_cons.1 h
    by_cases ha : a.1 ≤ k
    · rw [List.dropWhile_cons_of_pos (by simpa using ha)] at hq
      exact ih h.2 q hq
    · rw [List.dropWhile_cons_of_neg (by simpa using ha)] at hq
      rcases List.mem_cons.1 hq with rfl | hq
      · omega
      · have := h.1 q hq; omega
theorem take_le {l : List (Int × Int)} {k : Int} : ∀ q ∈ l.takeWhile (fun q => decide (q.1 ≤ k)), q.1 ≤ k := by
  induction l with
  | nil => simp
  | cons a l ih =>
    intro q hq
    by_cases ha : a.1 ≤ k
    · rw [List.takeWhile_cons_of_pos (by simpa using ha)] at hq
      rcases List.mem_cons.1 hq with rfl | hq
      · exact ha
      · exact ih q hq
    · rw [List.takeWhile_cons_of_neg (by simpa using ha)] at hq
      cases hq
theorem insPair_sortedP {l : List (Int × Int)} (h : SortedP l) (p : Int × Int) : SortedP (insPair l p) := by
  unfold insPair
  have e : l.takeWhile (fun q => decide (q.1 ≤ p.1)) ++ l.dropWhile (fun q => decide (q.1 ≤ p.1)) = l := List.takeWhile_append_dropWhile
  have h' := h
  unfold SortedP at h' ⊢
  rw [← e, List.pairwise_append] at h'
  refine List.pairwise_append.2 ⟨h'.1, List.pairwise_cons.2 ⟨fun q hq => ?_, h'.2.1⟩, fun a ha b hb => ?_⟩
  · have := drop_gt h q hq; omega
  · rcases List.mem_cons.1 hb with rfl | hb
    · exact take_le a ha
    · exact h'.2.2 a ha b hb
theorem isort_snoc (l : List (Int × Int)) (p : Int × Int) : isort (l ++ [p]) = insPair (isort l) p := by simp [isort]
theorem insPair_len (l : List (Int × Int)) (p : Int × Int) : (insPair l p).length = l.length + 1 := by
  unfold insPair
  have e : (l.takeWhile (fun q => decide (q.1 ≤ p.1)) ++ l.dropWhile (fun q => decide (q.1 ≤ p.1))).length = l.length := by rw [List.takeWhile_append_dropWhile]
  simp only [List.length_append, List.length_cons] at e ⊢
  omega
theorem isort_run (l : List (Int × Int)) : ∀ n, n ≤ l.length → (isort (l.take n)).length = n ∧ SortedP (isort (l.take n))
  | 0, _ => ⟨by simp [isort], by simp [isort]⟩
  | n + 1, h => by
    obtain ⟨x, hx⟩ : ∃ x, l[n]? = some x := ⟨_, List.getElem?_eq_getElem (by omega)⟩
    obtain ⟨h1, h2⟩ := isort_run l n (by omega)
    have e : l.take (n + 1) = l.take n ++ [x] := by rw [List.take_add_one, hx]; rfl
    rw [e, isort_snoc, insPair_len]
    exact ⟨by omega, insPair_sortedP h2 x⟩
/-- Where the last one comes to stand. -/
theorem insPair_at {p : List (Int × Int)} {x : Int × Int} {j : Nat} (hs : SortedP p) (hj : j ≤ p.length) (hb : ∀ q ∈ p.drop j, x.1 < q.1) (ha : j = 0 ∨ ∃ q, p[j - 1]? = some q ∧ q.1 ≤ x.1) : insPair p x = p.take j ++ x :: p.drop j := by
  have hle : ∀ q ∈ p.take j, q.1 ≤ x.1 := by
    intro q hq
    rcases ha with rfl | ⟨y, hy, hyx⟩
    · simp at hq
    · obtain ⟨i, hi⟩ := List.getElem?_of_mem hq
      rw [List.getElem?_take] at hi
      split at hi
      · rename_i hij
        by_cases e : i = j - 1
        · subst e; rw [hy] at hi; injection hi with hi; rw [← hi]; exact hyx
        · obtain ⟨hi1, hi2⟩ := List.getElem?_eq_some_iff.1 hi
          obtain ⟨hy1, hy2⟩ := List.getElem?_eq_some_iff.1 hy
          have := List.pairwise_iff_getElem.1 hs i (j - 1) hi1 hy1 (by omega)
          rw [hi2, hy2] at this
          omega
      · cases hi
  have e : p = p.take j ++ p.drop j := (List.take_append_drop j p).symm
  have f1 : ∀ q ∈ p.take j, decide (q.1 ≤ x.1) = true := fun q hq => decide_eq_true (hle q hq)
  have e1 : p.takeWhile (fun q => decide (q.1 ≤ x.1)) = p.take j := by
    conv => lhs; rw [e]
    rw [List.takeWhile_append_of_pos f1]
    cases hd : p.drop j with
    | nil => simp
    | cons y r =>
      have := hb y (by rw [hd]; simp)
      rw [List.takeWhile_cons_of_neg (by simp; omega)]
      simp
  have e2 : p.dropWhile (fun q => decide (q.1 ≤ x.1)) = p.drop j := by
    conv => lhs; rw [e]
    rw [List.dropWhile_append_of_pos f1]
    cases hd : p.drop j with
    | nil => simp
    | cons y r =>
      have := hb y (by rw [hd]; simp)
      rw [List.dropWhile_cons_of_neg (by simp; omega)]
  unfold insPair
  rw [e1, e2]

/-- Four cells amid others. -/
theorem four_lo {A T : List Value} {a b c d : Value} {n : Nat} (h : A.length = n) : ((A ++ [a, b, c, d] ++ T).drop n).take 2 = [a, b] := by
  subst h; simp
theorem four_hi {A T : List Value} {a b c d : Value} {n : Nat} (h : A.length = n) : ((A ++ [a, b, c, d] ++ T).drop (n + 2)).take 2 = [c, d] := by
  have e : A ++ [a, b, c, d] ++ T = (A ++ [a, b]) ++ (c :: d :: T) := by simp
  rw [e, List.drop_left' (by simp; omega)]
  rfl
theorem put_lo {A T : List Value} {a b c d e f : Value} {n : Nat} (h : A.length = n) : (A ++ [a, b, c, d] ++ T).take n ++ [e, f] ++ (A ++ [a, b, c, d] ++ T).drop (n + 2) = A ++ [e, f, c, d] ++ T := by
  have e1 : (A ++ [a, b, c, d] ++ T).take n = A := by rw [List.append_assoc, List.take_left' h]
  have e2 : (A ++ [a, b, c, d] ++ T).drop (n + 2) = c :: d :: T := by
    rw [show A ++ [a, b, c, d] ++ T = (A ++ [a, b]) ++ (c :: d :: T) by simp, List.drop_left' (by simp; omega)]
  rw [e1, e2]; simp
theorem put_hi {A T : List Value} {a b c d e f : Value} {n : Nat} (h : A.length = n) : (A ++ [a, b, c, d] ++ T).take (n + 2) ++ [e, f] ++ (A ++ [a, b, c, d] ++ T).drop (n + 2 + 2) = A ++ [a, b, e, f] ++ T := by
  have e1 : (A ++ [a, b, c, d] ++ T).take (n + 2) = A ++ [a, b] := by
    rw [show A ++ [a, b, c, d] ++ T = (A ++ [a, b]) ++ (c :: d :: T) by simp, List.take_left' (by simp; omega)]
  have e2 : (A ++ [a, b, c, d] ++ T).drop (n + 2 + 2) = T := by rw [List.drop_left' (by simp; omega)]
  rw [e1, e2]; simp
end Go.Proofs.YtccmjljlfgbicaaGreat

/- A state as it can be seen; what its steps change of that. -/
namespace Go.Proofs.YtccmjljlfgbicaaGreat
open Go.ChangeShapes Go.WideShapes Go.ChangeAt Go.RowKit

def St.vw (s : St) : Vw := { nb := s.c.buckets, nx := fun n => s.peek (s.nextAt n), wd := fun o => s.peek (s.wordAt o), op := s.carried, ky := fun o => (s.call o).key, bk := fun k => bucketOf k s.c.buckets, kd := fun o => (s.call o).kind }
theorem Vw.ext' {v v' : Vw} (h1 : v.nb = v'.nb) (h2 : v.nx = v'.nx) (h3 : v.wd = v'.wd) (h4 : v.op = v'.op) (h5 : v.ky = v'.ky) (h6 : v.bk = v'.bk) (h7 : v.kd = v'.kd) : v = v' := by
  cases v; cases v'; simp_all

section
variable {s : St}
theorem nextAt_cases (s : St) (n : Int) : (s.nextAt n = n ∧ 0 ≤ n ∧ n < s.c.nodes) ∨ (s.nextAt n = -1 ∧ ¬ (0 ≤ n ∧ n < s.c.nodes)) := by
  unfold St.nextAt atOr
  split
  · rename_i h; exact .inl ⟨rfl, h⟩
  · rename_i h; exact .inr ⟨rfl, h⟩
theorem wordAt_cases (s : St) (n : Int) : (s.wordAt n = s.c.nodes + n ∧ 0 ≤ n ∧ n < s.c.ops) ∨ (s.wordAt n = -1 ∧ ¬ (0 ≤ n ∧ n < s.c.ops)) := by
  unfold St.wordAt atOr
  split
  · rename_i h; exact .inl ⟨rfl, h⟩
  · rename_i h; exact .inr ⟨rfl, h⟩
theorem peek_neg (s : St) : s.peek (-1) = 0 := by unfold St.peek peekL; rw [if_neg (by omega)]
theorem swaps_neg (s : St) (old : Int) : s.swaps (-1) old = false := by
  unfold St.swaps swapB inL; rw [show decide ((0 : Int) ≤ -1 ∧ (-1 : Int) < (s.words.length : Int)) = false from decide_eq_false (by omega)]; rfl
theorem swaps_iff (s : St) (p old : Int) : s.swaps p old = true ↔ (0 ≤ p ∧ p < (s.words.length : Int)) ∧ s.peek p = old := by
  unfold St.swaps swapB inL St.peek; simp
theorem swap_no {p old x : Int} (h : s.swaps p old = false) : (s.swap p old x).words = s.words := by
  unfold St.swaps at h
  unfold St.swap swapL; simp [h]
theorem vw_words {s' : St} (h1 : s'.c = s.c) (h2 : s'.ops = s.ops) (h3 : s'.nodes = s.nodes) (h4 : s'.words = s.words) : s'.vw = s.vw := by
  unfold St.vw St.peek St.nextAt St.wordAt St.carried St.call St.callOf
  rw [h1, h2, h3, h4]
theorem vw_load (p : Int) : (s.load p).vw = s.vw := rfl
theorem vw_swap_no {p old x : Int} (h : s.swaps p old = false) : (s.swap p old x).vw = s.vw := vw_words rfl rfl rfl (swap_no h)
theorem nodes_len (h : s.ok) : (s.words.length : Int) = s.c.nodes + s.c.ops + s.c.threads ∧ 4 ≤ s.c.nodes ∧ 0 ≤ s.c.ops ∧ 1 ≤ s.c.threads := by
  have h1 := h.len
  have h2 := nodes_bounds h.may
  have h3 := ops_bounds s.c
  have h4 := may_bounds h.may
  omega
theorem vw_swap_next {n old x : Int} (h : s.swaps (s.nextAt n) old = true) : (s.swap (s.nextAt n) old x).vw = { s.vw with nx := upd s.vw.nx n x } := by
  rcases nextAt_cases s n with ⟨e, hn⟩ | ⟨e, _⟩
  · rw [e] at h ⊢
    refine Vw.ext' rfl ?_ ?_ rfl rfl rfl rfl
    · funext m
      show (s.swap n old x).peek (s.nextAt m) = upd (fun n => s.peek (s.nextAt n)) n x m
      rw [peek_swap h]
      unfold upd
      dsimp only
      rcases nextAt_cases s m with ⟨e', hm⟩ | ⟨e', hm⟩
      · rw [e']
      · rw [e']
        by_cases q : m = n
        · subst q; exact (hm hn).elim
        · rw [if_neg q, if_neg (by omega)]
    · funext o
      show (s.swap n old x).peek (s.wordAt o) = s.peek (s.wordAt o)
      rw [peek_swap h]
      rcases wordAt_cases s o with ⟨e', ho⟩ | ⟨e', ho⟩
      · rw [if_neg (by omega)]
      · rw [if_neg (by omega)]
  · rw [e, swaps_neg] at h; cases h
theorem vw_swap_word {o old x : Int} (hok : s.ok) (h : s.swaps (s.wordAt o) old = true) : (s.swap (s.wordAt o) old x).vw = { s.vw with wd := upd s.vw.wd o x } := by
  have hl := nodes_len hok
  rcases wordAt_cases s o with ⟨e, hn⟩ | ⟨e, _⟩
  · rw [e] at h ⊢
    refine Vw.ext' rfl ?_ ?_ rfl rfl rfl rfl
    · funext m
      show (s.swap (s.c.nodes + o) old x).peek (s.nextAt m) = s.peek (s.nextAt m)
      rw [peek_swap h]
      rcases nextAt_cases s m with ⟨e', hm⟩ | ⟨e', hm⟩
      · rw [if_neg (by omega)]
      · rw [if_neg (by omega)]
    · funext m
      show (s.swap (s.c.nodes + o) old x).peek (s.wordAt m) = upd (fun o => s.peek (s.wordAt o)) o x m
      rw [peek_swap h]
      unfold upd
      rcases wordAt_cases s m with ⟨e', hm⟩ | ⟨e', hm⟩
      · rw [e']
        by_cases q : m = o
        · subst q; rw [if_pos rfl, if_pos rfl]
        · rw [if_neg q, if_neg (by omega)]; show _ = s.peek (s.wordAt m); rw [e']
      · rw [e']
        by_cases q : m = o
        · subst q; exact (hm hn).elim
        · rw [if_neg q, if_neg (by omega)]; show _ = s.peek (s.wordAt m); rw [e']
  · rw [e, swaps_neg] at h; cases h
theorem vw_store_next {n x : Int} (hok : s.ok) (hn : 0 ≤ n ∧ n < s.c.nodes) : (s.store (s.nextAt n) x).vw = { s.vw with nx := upd s.vw.nx n x } := by
  have hl := nodes_len hok
  rw [nextAt_in hn.1 hn.2]
  refine Vw.ext' rfl ?_ ?_ rfl rfl rfl rfl
  · funext m
    show (s.store n x).peek (s.nextAt m) = upd (fun n => s.peek (s.nextAt n)) n x m
    rw [peek_store hn.1 (by omega)]
    unfold upd
    dsimp only
    rcases nextAt_cases s m with ⟨e', hm⟩ | ⟨e', hm⟩
    · rw [e']
    · rw [e']
      by_cases q : m = n
      · subst q; exact (hm hn).elim
      · rw [if_neg q, if_neg (by omega)]
  · funext o
    show (s.store n x).peek (s.wordAt o) = s.peek (s.wordAt o)
    rw [peek_store hn.1 (by omega)]
    rcases wordAt_cases s o with ⟨e', ho⟩ | ⟨e', ho⟩
    · rw [if_neg (by omega)]
    · rw [if_neg (by omega)]
end

def Walk.wk (x : Walk) : Wk := ⟨x.key, x.mode, x.phase, x.pred, x.curr, x.next, x.seen⟩
def St.bof (s : St) (key : Int) : Int := bucketOf key s.c.buckets

theorem bof_range {s : St} (h : s.c.may = true) (key : Int) : 0 ≤ s.bof key ∧ s.bof key < s.c.buckets := by
  have hb : mayB s.c.buckets = true := by
    unfold Conf.may at h
    simp only [Bool.and_eq_true] at h
    exact h.2.1
  unfold St.bof bucketOf
  rw [if_pos hb]
  have hm := mayB_cases hb
  have h1 : 0 ≤ key * 11400714819323198485 % 18446744073709551616 ∧ key * 11400714819323198485 % 18446744073709551616 < 18446744073709551616 := ⟨Int.emod_nonneg _ (by decide), Int.emod_lt_of_pos _ (by decide)⟩
  generalize key * 11400714819323198485 % 18446744073709551616 = z at *
  rcases hm with e | e | e | e | e | e | e <;> rw [e] <;> omega
theorem head_eq {s : St} (h : s.c.may = true) (key : Int) : s.head key = 1 + s.bof key := atOr_in (bof_range h key)

/-- How far a walk among others has come: before its first step, at a node, at its end, or stopped. -/
inductive Wst (s : St) (g : Gh) (x : Walk) (t0 : Int) : Prop
  | ahead (hd : x.done = false) (hp : x.phase = 0)
  | at_ (hd : x.done = false) (hp : 1 ≤ x.phase ∧ x.phase ≤ 7) (h : WI s.vw g (s.bof x.key) x.wk t0)
  | end_ (hd : x.done = true) (hs : x.stop = false) (h : WE s.vw g (s.bof x.key) x.wk t0)
  | stop (hd : x.done = true) (hs : x.stop = true) (hm : x.mode = 2)
end Go.Proofs.YtccmjljlfgbicaaGreat

