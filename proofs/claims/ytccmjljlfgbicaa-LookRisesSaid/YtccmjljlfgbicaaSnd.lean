/- Whether a chain is sound, node by node; it is where all is as it may be, and a laid chain that is sound is so. Plain. -/
import Derived.Test.YtccmjljlfgbicaaStp
namespace Go.Proofs.Ytccmjljlfgbicaa

/-- What was met on the way. -/
structure Snd where
  seen : List Int
  again : List Int
  opn : List Int
  last : Int
def addTo (l : List Int) (x : Int) : List Int := if x ∈ l then l else l ++ [x]
theorem mem_addTo {l : List Int} {x y : Int} : y ∈ addTo l x ↔ y ∈ l ∨ y = x := by
  unfold addTo; split
  · rename_i h
    exact ⟨.inl, fun k => k.elim id fun e => e ▸ h⟩
  · simp
def Vw.sndStep (v : Vw) (b : Int) (x : Snd) (n : Int) : Option Snd :=
  if v.kd (v.op n) ≠ 1 ∨ n ∈ x.seen ∨ v.key n < x.last ∨ v.bk (v.key n) ≠ b then none
  else if v.op n ∈ x.again ∨ 1 < v.wd (v.op n) then some ⟨x.seen ++ [n], addTo x.again (v.op n), x.opn, v.key n⟩
  else if v.nx n % 2 = 1 ∨ (v.wd (v.op n) = 1 ∧ v.key n ∈ x.opn) then none
  else some ⟨x.seen ++ [n], addTo x.again (v.op n), addTo x.opn (v.key n), v.key n⟩
def Vw.sndRun (v : Vw) (b : Int) : Snd → List Int → Bool
  | _, [] => true
  | x, n :: l => match v.sndStep b x n with
    | none => false
    | some y => v.sndRun b y l

/-- What is known behind some nodes. -/
structure SndAt (v : Vw) (A : List Int) (x : Snd) : Prop where
  seen : x.seen = A
  again : ∀ o, o ∈ x.again ↔ ∃ m ∈ A, v.op m = o
  opn : ∀ k, k ∈ x.opn ↔ ∃ m ∈ A, v.key m = k ∧ v.wd (v.op m) ≤ 1
  last : ∀ m ∈ A, v.key m ≤ x.last
  rise : x.last = 0 ∨ ∃ m ∈ A, x.last = v.key m

theorem sndAt_nil (v : Vw) : SndAt v [] ⟨[], [], [], 0⟩ := ⟨rfl, by simp, by simp, by simp, .inl rfl⟩
theorem sndAt_step {v : Vw} {b : Int} {A : List Int} {x y : Snd} {n : Int} (h : SndAt v A x) (hs : v.sndStep b x n = some y) :
    SndAt v (A ++ [n]) y ∧ v.kd (v.op n) = 1 ∧ n ∉ A ∧ (∀ m ∈ A, v.key m ≤ v.key n) ∧ v.bk (v.key n) = b ∧
      ((∃ m ∈ A, v.op m = v.op n) ∨ 1 < v.wd (v.op n) ∨ (v.nx n % 2 ≠ 1 ∧ (v.wd (v.op n) = 1 → ∀ m ∈ A, v.key m = v.key n → 1 < v.wd (v.op m)))) := by
  unfold Vw.sndStep at hs
  split at hs
  · cases hs
  rename_i h1
  have a1 : v.kd (v.op n) = 1 := Decidable.byContradiction fun e => h1 (.inl e)
  have a2 : n ∉ A := fun e => h1 (.inr (.inl (h.seen ▸ e)))
  have a3 : x.last ≤ v.key n := by
    have : ¬ v.key n < x.last := fun e => h1 (.inr (.inr (.inl e)))
    omega
  have a4 : v.bk (v.key n) = b := Decidable.byContradiction fun e => h1 (.inr (.inr (.inr e)))
  have a5 : ∀ m ∈ A, v.key m ≤ v.key n := fun m hm => Int.le_trans (h.last m hm) a3
  have ag : ∀ o, o ∈ addTo x.again (v.op n) ↔ ∃ m ∈ A ++ [n], v.op m = o := fun o => by
    rw [mem_addTo, h.again]
    constructor
    · rintro (⟨m, k1, k2⟩ | rfl)
      · exact ⟨m, List.mem_append.2 (.inl k1), k2⟩
      · exact ⟨n, by simp, rfl⟩
    · rintro ⟨m, k1, k2⟩
      rcases List.mem_append.1 k1 with k | k
      · exact .inl ⟨m, k, k2⟩
      · rw [List.mem_singleton.1 k] at k2; exact .inr k2.symm
  have la : ∀ m ∈ A ++ [n], v.key m ≤ v.key n := fun m hm => by
    rcases List.mem_append.1 hm with k | k
    · exact a5 m k
    · rw [List.mem_singleton.1 k]; exact Int.le_refl _
  have ri : v.key n = 0 ∨ ∃ m ∈ A ++ [n], v.key n = v.key m := .inr ⟨n, by simp, rfl⟩
  split at hs
  · rename_i h2
    injection hs with hs
    subst hs
    refine ⟨⟨by rw [h.seen], ag, fun k => ?_, la, ri⟩, a1, a2, a5, a4, ?_⟩
    · show k ∈ x.opn ↔ _
      rw [h.opn]
      constructor
      · rintro ⟨m, k1, k2⟩
        exact ⟨m, List.mem_append.2 (.inl k1), k2⟩
      · rintro ⟨m, k1, k2, k3⟩
        rcases List.mem_append.1 k1 with k | k
        · exact ⟨m, k, k2, k3⟩
        · have e := List.mem_singleton.1 k
          subst e
          rcases h2 with h2 | h2
          · obtain ⟨m', q1, q2⟩ := (h.again _).1 h2
            exact ⟨m', q1, by rw [← k2]; show v.ky (v.op m') = v.ky (v.op m); rw [q2], by rw [q2]; exact k3⟩
          · omega
    · rcases h2 with h2 | h2
      · exact .inl ((h.again _).1 h2)
      · exact .inr (.inl h2)
  · rename_i h2
    split at hs
    · cases hs
    rename_i h3
    injection hs with hs
    subst hs
    have hw : v.wd (v.op n) ≤ 1 := by
      have : ¬ 1 < v.wd (v.op n) := fun e => h2 (.inr e)
      omega
    refine ⟨⟨by rw [h.seen], ag, fun k => ?_, la, ri⟩, a1, a2, a5, a4, .inr (.inr ⟨fun e => h3 (.inl e), fun e m hm hk => ?_⟩)⟩
    · show k ∈ addTo x.opn (v.key n) ↔ _
      rw [mem_addTo, h.opn]
      constructor
      · rintro (⟨m, k1, k2⟩ | rfl)
        · exact ⟨m, List.mem_append.2 (.inl k1), k2⟩
        · exact ⟨n, by simp, rfl, hw⟩
      · rintro ⟨m, k1, k2, k3⟩
        rcases List.mem_append.1 k1 with k | k
        · exact .inl ⟨m, k, k2, k3⟩
        · rw [List.mem_singleton.1 k] at k2; exact .inr k2.symm
    · have : ¬ v.key n ∈ x.opn := fun q => h3 (.inr ⟨e, q⟩)
      rw [h.opn] at this
      have : ¬ v.wd (v.op m) ≤ 1 := fun q => this ⟨m, hm, hk, q⟩
      omega
/-- A chain that was found sound: what is known at each node. -/
theorem sndRun_facts {v : Vw} {b : Int} : ∀ {l A : List Int} {x : Snd}, SndAt v A x → v.sndRun b x l = true → ∀ C n D, l = C ++ n :: D → v.kd (v.op n) = 1 ∧ n ∉ A ++ C ∧ (∀ m ∈ A ++ C, v.key m ≤ v.key n) ∧ v.bk (v.key n) = b ∧
      ((∃ m ∈ A ++ C, v.op m = v.op n) ∨ 1 < v.wd (v.op n) ∨ (v.nx n % 2 ≠ 1 ∧ (v.wd (v.op n) = 1 → ∀ m ∈ A ++ C, v.key m = v.key n → 1 < v.wd (v.op m))))
  | [], A, x, _, _, C, n, D, e => by cases C <;> cases e
  | a :: l, A, x, h, hr, C, n, D, e => by
    unfold Vw.sndRun at hr
    cases hs : v.sndStep b x a with
    | none => rw [hs] at hr; cases hr
    | some y =>
      rw [hs] at hr
      have k := sndAt_step h hs
      cases C with
      | nil =>
        injection e with e1 e2
        subst e1
        rw [List.append_nil]
        exact k.2
      | cons c C =>
        injection e with e1 e2
        subst e1
        have := sndRun_facts k.1 hr C n D e2
        simpa using this

/-- Where all is as it may be a chain is sound. -/
theorem sndRun_of_inv {v : Vw} {g : Gh} (I : Inv v g) (hd : g.sd = true) {b : Int} {L : List Int} (hk : ∀ n ∈ L, 0 ≤ v.key n) (hn : ∀ m ∈ L, Nd v g b m) (hp : L.Pairwise (Lt v g)) (hu : ∀ m, Nd v g b m → ¬ v.mkd m → m ∈ L) :
    ∀ (B A : List Int) (x : Snd), L = A ++ B → SndAt v A x → v.sndRun b x B = true := by
  intro B
  induction B with
  | nil => intro A x _ _; rfl
  | cons n B ih =>
    intro A x e h
    have hnL : n ∈ L := by rw [e]; simp
    have hnn := hn n hnL
    have hp' := hp
    rw [e] at hp'
    obtain ⟨_, hp2, hp3⟩ := List.pairwise_append.1 hp'
    have before : ∀ m ∈ A, Lt v g m n := fun m hm => hp3 m hm n (.head _)
    have inA : ∀ m ∈ L, Lt v g m n → m ∈ A := fun m hm hl => by
      rw [e] at hm
      rcases List.mem_append.1 hm with k | k
      · exact k
      · rcases List.mem_cons.1 k with rfl | k
        · exact hl.irrefl.elim
        · exact (hl.asymm ((List.pairwise_cons.1 hp2).1 m k)).elim
    have h1 : ¬ (v.kd (v.op n) ≠ 1 ∨ n ∈ x.seen ∨ v.key n < x.last ∨ v.bk (v.key n) ≠ b) := by
      rintro (k | k | k | k)
      · exact k (I.isins n hnn.1)
      · rw [h.seen] at k; exact (before n k).irrefl
      · rcases h.rise with r | ⟨m, hm, r⟩
        · have := hk n hnL; omega
        · have := before m hm; unfold Lt at this; omega
      · exact k hnn.2
    have key : ∃ y, v.sndStep b x n = some y := by
      unfold Vw.sndStep
      rw [if_neg h1]
      split
      · exact ⟨_, rfl⟩
      rename_i h2
      have hw : v.wd (v.op n) ≤ 1 := by
        have : ¬ 1 < v.wd (v.op n) := fun q => h2 (.inr q)
        omega
      obtain ⟨f, f1, f2, f3, f4, f5, f6⟩ := I.first hnn.1
      have hfu := f6 hd hw
      have hfL : f ∈ L := hu f ⟨f1, by rw [f3]; exact hnn.2⟩ hfu
      have hfn : f = n := by
        rcases I.tri f1 hnn.1 with k | k | k
        · exact (h2 (.inl ((h.again _).2 ⟨f, inA f hfL k, f2⟩))).elim
        · exact k
        · unfold Lt at k; omega
      subst hfn
      rw [if_neg]
      · exact ⟨_, rfl⟩
      · rintro (k | ⟨k1, k2⟩)
        · exact hfu k
        · obtain ⟨m, q1, q2, q3⟩ := (h.opn _).1 k2
          have hmL : m ∈ L := by rw [e]; exact List.mem_append.2 (.inl q1)
          have hl := before m q1
          have := I.fst hd m f (hn m hmL).1 f1 q2 (by unfold Lt at hl; omega) k1 fun k a b' => f5 k a b'
          omega
    obtain ⟨y, hy⟩ := key
    unfold Vw.sndRun
    rw [hy]
    exact ih (A ++ [n]) y (by rw [e]; simp) (sndAt_step h hy).1

/-- A laid chain. -/
structure LaidV (v : Vw) (j : Nat) : Prop where
  nb : v.nb = 1
  bk : ∀ k, v.bk k = 0
  hd : v.nx 1 % 2 = 0
  to : ∀ t : Nat, t < j → v.to (1 + t) = 2 + t
  end_ : v.to (1 + j) = 0
  opr : ∀ t : Nat, t < j → 0 ≤ v.op (2 + t)
  ins : ∀ t : Nat, t < j → v.kd (v.op (2 + t)) = 1
  rise : ∀ t : Nat, t + 1 < j → v.key (2 + t) ≤ v.key (3 + t)
  wd0 : ∀ o, 0 ≤ v.wd o
  held : ∀ o, v.kd o = 1 → v.wd o = 1 → ∃ t : Nat, t < j ∧ v.op (2 + t) = o
def laidL : Nat → Nat → List Int
  | _, 0 => []
  | t, k + 1 => (2 + t : Int) :: laidL (t + 1) k
theorem laidL_len (t k : Nat) : (laidL t k).length = k := by
  induction k generalizing t with
  | zero => rfl
  | succ k ih => unfold laidL; simp [ih]
theorem laidL_mem {k t : Nat} {n : Int} : n ∈ laidL t k ↔ 2 + (t : Int) ≤ n ∧ n < 2 + t + k := by
  induction k generalizing t with
  | zero => unfold laidL; simp
  | succ k ih => unfold laidL; rw [List.mem_cons, ih]; omega
theorem laidL_split {k t i : Nat} (h : i < k) : laidL t k = laidL t i ++ (2 + t + i : Int) :: laidL (t + i + 1) (k - i - 1) := by
  induction i generalizing t k with
  | zero =>
    obtain ⟨k, rfl⟩ : ∃ k', k = k' + 1 := ⟨k - 1, by omega⟩
    simp [laidL]
  | succ i ih =>
    obtain ⟨k, rfl⟩ : ∃ k', k = k' + 1 := ⟨k - 1, by omega⟩
    have := ih (t := t + 1) (k := k) (by omega)
    show (2 + t : Int) :: laidL (t + 1) k = (2 + t : Int) :: laidL (t + 1) i ++ _
    rw [this]
    rw [List.cons_append, show ((t + 1 : Nat) : Int) = t + 1 from rfl, show (2 : Int) + (t + 1) + i = 2 + t + (i + 1 : Nat) by omega, show t + 1 + i + 1 = t + (i + 1) + 1 by omega, show k + 1 - (i + 1) - 1 = k - i - 1 by omega]
def laidG (j : Nat) (d : Bool) : Gh := { lk := fun n => 2 ≤ n ∧ n < 2 + j, st := fun n => n - 2, T := j, sd := d }
theorem laid_path {v : Vw} {j : Nat} (h : LaidV v j) : ∀ (k t : Nat), t + k = j → VPath v (1 + t) (laidL t k)
  | 0, t, e => by unfold laidL VPath; have := h.end_; rw [← e] at this; simpa using this
  | k + 1, t, e => by
    unfold laidL VPath
    refine ⟨h.to t (by omega), by omega, ?_⟩
    have := laid_path h k (t + 1) (by omega)
    rw [show (1 + (t + 1 : Nat) : Int) = 2 + t by omega] at this
    exact this

theorem LaidV.rise' {v : Vw} {j : Nat} (h : LaidV v j) {a : Nat} : ∀ {b : Nat}, a ≤ b → b < j → v.key (2 + a) ≤ v.key (2 + b)
  | 0, h1, h2 => by rw [show a = 0 by omega]; exact Int.le_refl _
  | b + 1, h1, h2 => by
    by_cases e : a = b + 1
    · rw [e]; exact Int.le_refl _
    · have := h.rise' (a := a) (b := b) (by omega) (by omega)
      have k := h.rise b h2
      rw [show (3 + b : Int) = 2 + (b + 1 : Nat) by omega] at k
      exact Int.le_trans this k
/-- A laid chain is as it may be; if it is sound, the more so. -/
theorem inv_of_laid {v : Vw} {j : Nat} (h : LaidV v j) (d : Bool) (hs : d = true → v.sndRun 0 ⟨[], [], [], 0⟩ (laidL 0 j) = true) : Inv v (laidG j d) := by
  have F : d = true → ∀ i : Nat, i < j → _ := fun hd i hi => sndRun_facts (sndAt_nil v) (hs hd) (laidL 0 i) (2 + i) (laidL (i + 1) (j - i - 1)) (by have := laidL_split (t := 0) hi; simpa using this)
  simp only [List.nil_append] at F
  have R : ∀ i : Nat, i < j → ∀ m, m ∈ laidL 0 i → v.key m ≤ v.key (2 + i) := fun i hi m hm => by
    rw [laidL_mem] at hm
    have := h.rise' (a := (m - 2).toNat) (b := i) (by omega) hi
    rw [show (2 : Int) + ((m - 2).toNat : Nat) = m by omega] at this
    exact this
  have idx : ∀ n : Int, (laidG j d).lk n → ∃ i : Nat, i < j ∧ n = 2 + i := fun n hn => ⟨(n - 2).toNat, by have := hn.1; have := hn.2; omega, by have := hn.1; omega⟩
  have bef : ∀ i : Nat, ∀ m, m ∈ laidL 0 i ↔ 2 ≤ m ∧ m < 2 + i := fun i m => by rw [laidL_mem]; omega
  refine ⟨by rw [h.nb]; decide, fun n hn => by rw [h.nb]; have := hn.1; omega, fun n hn => by show n - 2 < j; have := hn.2; omega, fun n hn => by show 0 ≤ n - 2; have := hn.1; omega, by show (0 : Int) ≤ j; omega, fun n m _ _ e => by have e' : n - 2 = m - 2 := e; omega, fun n _ => by rw [h.bk, h.nb]; decide, ?_, ?_, ?_, ?_, ?_, ?_, ?_, h.wd0, ?_⟩
  · intro b p hp
    have hb : b = 0 := by
      rcases hp with ⟨_, k1, k2⟩ | ⟨_, k⟩
      · rw [h.nb] at k2; omega
      · rw [h.bk] at k; exact k.symm
    subst hb
    obtain ⟨t, ht, rfl⟩ : ∃ t : Nat, t ≤ j ∧ p = 1 + t := by
      rcases hp with ⟨k, _⟩ | ⟨⟨k1, k2⟩, _⟩
      · exact ⟨0, by omega, by rw [k]; rfl⟩
      · exact ⟨(p - 1).toNat, by omega, by omega⟩
    by_cases e : t < j
    · rw [h.to t e]
      refine .inr ⟨⟨⟨by omega, by omega⟩, h.bk _⟩, ?_, ?_⟩
      · by_cases e0 : t = 0
        · subst e0; exact .inl ⟨rfl, by decide, by rw [h.nb]; decide⟩
        · refine .inr ?_
          have k := R t e (1 + t) ((bef t _).2 (by omega))
          have s1 : (laidG j d).st (1 + t) = 1 + t - 2 := rfl
          have s2 : (laidG j d).st (2 + t) = 2 + t - 2 := rfl
          unfold Lt
          rw [s1, s2]; omega
      · intro m hm hk ha hst
        have hst' : m - 2 < 2 + (t : Int) - 2 := hst
        rcases ha with ⟨k, _⟩ | k
        · exfalso; have := hm.1; omega
        · exfalso
          have k' : v.key (1 + t) < v.key m ∨ (v.key (1 + t) = v.key m ∧ 1 + (t : Int) - 2 < m - 2) := k
          obtain ⟨i, rfl⟩ : ∃ i : Nat, t = i + 1 := ⟨t - 1, by have := hm.1; omega⟩
          have k1 := R i (by omega) m
          have e2 : (2 + i : Int) = 1 + (i + 1 : Nat) := by omega
          rw [e2] at k1
          by_cases e3 : m = 1 + ((i + 1 : Nat) : Int)
          · rw [← e3] at k'; omega
          · have := k1 ((bef i _).2 ⟨hm.1, by omega⟩); omega
    · have : t = j := by omega
      subst this
      exact .inl h.end_
  · intro b h1 h2
    have : b = 0 := by rw [h.nb] at h2; omega
    subst this
    exact h.hd
  · intro b h1 h2
    have : b = 0 := by rw [h.nb] at h2; omega
    subst this
    exact ⟨laidL 0 j, laid_path h j 0 (by omega), fun m hm _ => (bef j m).2 hm.1⟩
  · intro hd m hm hk
    obtain ⟨i, hi, rfl⟩ := idx m hm
    rcases (F hd i hi).2.2.2.2 with ⟨n, q1, q2⟩ | q | ⟨q, _⟩
    · have := (bef i n).1 q1
      exact .inr ⟨n, ⟨by omega, by omega⟩, q2, by show n - 2 < 2 + (i : Int) - 2; omega⟩
    · exact .inl q
    · exact (q hk).elim
  · intro hd n m hn hm hk hst hw hf
    obtain ⟨i, hi, rfl⟩ := idx m hm
    have hst' : n - 2 < 2 + (i : Int) - 2 := hst
    rcases (F hd i hi).2.2.2.2 with ⟨q, q1, q2⟩ | q | ⟨_, q⟩
    · have hq := (bef i q).1 q1
      have := hf q ⟨by omega, by omega⟩ q2
      have this' : 2 + (i : Int) - 2 ≤ q - 2 := this
      omega
    · omega
    · exact q hw n ((bef i n).2 ⟨hn.1, by omega⟩) hk
  · intro n hn
    obtain ⟨i, hi, rfl⟩ := idx n hn
    exact h.ins i hi
  · intro n hn
    obtain ⟨i, hi, rfl⟩ := idx n hn
    exact h.opr i hi
  · intro o h1 h2
    obtain ⟨t, ht, e⟩ := h.held o h1 h2
    exact ⟨2 + t, ⟨by omega, by omega⟩, e⟩
end Go.Proofs.Ytccmjljlfgbicaa
