/- The pairs of a chain: a rising list of what is in. Plain. -/
import Derived.Test.YtccmjljlfgbicaaSnd
namespace Go.Proofs.Ytccmjljlfgbicaa

abbrev Vw.inn (v : Vw) (o : Int) : Prop := v.kd o = 1 ∧ v.wd o = 1
/-- The pairs of some nodes, where some operations were met. -/
def Vw.prsRun (v : Vw) (vl : Int → Int) : List Int → List Int → List (Int × Int)
  | _, [] => []
  | once, n :: l => if v.inn (v.op n) ∧ v.op n ∉ once then (v.key n, vl (v.op n)) :: v.prsRun vl (once ++ [v.op n]) l else v.prsRun vl once l
/-- A list of pairs whose keys rise. -/
abbrev Rising (l : List (Int × Int)) : Prop := l.Pairwise fun a b => a.1 < b.1

theorem rising_ext {l m : List (Int × Int)} (hl : Rising l) (hm : Rising m) (h : ∀ p, p ∈ l ↔ p ∈ m) : l = m := by
  induction l generalizing m with
  | nil =>
    cases m with
    | nil => rfl
    | cons a m => have := (h a).2 (.head _); cases this
  | cons a l ih =>
    cases m with
    | nil => have := (h a).1 (.head _); cases this
    | cons b m =>
      obtain ⟨h1, h2⟩ := List.pairwise_cons.1 hl
      obtain ⟨k1, k2⟩ := List.pairwise_cons.1 hm
      have e : a = b := by
        rcases List.mem_cons.1 ((h a).1 (.head _)) with e | e
        · exact e
        · rcases List.mem_cons.1 ((h b).2 (.head _)) with e' | e'
          · exact e'.symm
          · have := h1 b e'; have := k1 a e; omega
      subst e
      rw [ih h2 k2 fun p => ?_]
      constructor
      · intro hp
        rcases List.mem_cons.1 ((h p).1 (.tail _ hp)) with rfl | q
        · have := h1 p hp; omega
        · exact q
      · intro hp
        rcases List.mem_cons.1 ((h p).2 (.tail _ hp)) with rfl | q
        · have := k1 p hp; omega
        · exact q
theorem rising_key {l : List (Int × Int)} (hl : Rising l) {p q : Int × Int} (hp : p ∈ l) (hq : q ∈ l) (e : p.1 = q.1) : p = q := by
  induction l with
  | nil => cases hp
  | cons a l ih =>
    obtain ⟨h1, h2⟩ := List.pairwise_cons.1 hl
    rcases List.mem_cons.1 hp with e1 | hp1 <;> rcases List.mem_cons.1 hq with e2 | hq1
    · rw [e1, e2]
    · have := h1 q hq1; rw [← e1] at this; omega
    · have := h1 p hp1; rw [← e2] at this; omega
    · exact ih h2 hp1 hq1

/-- Into its place. -/
def insPair (l : List (Int × Int)) (p : Int × Int) : List (Int × Int) := l.takeWhile (fun q => decide (q.1 ≤ p.1)) ++ p :: l.dropWhile (fun q => decide (q.1 ≤ p.1))
def isort (l : List (Int × Int)) : List (Int × Int) := l.foldl insPair []
theorem tw_all {α : Type} {f : α → Bool} {l : List α} (h : ∀ q ∈ l, f q = true) : l.takeWhile f = l ∧ l.dropWhile f = [] := by
  induction l with
  | nil => exact ⟨rfl, rfl⟩
  | cons a l ih =>
    have ha := h a (.head _)
    obtain ⟨i1, i2⟩ := ih fun q hq => h q (.tail _ hq)
    simp [List.takeWhile, List.dropWhile, ha, i1, i2]
theorem insPair_end {l : List (Int × Int)} {p : Int × Int} (h : ∀ q ∈ l, q.1 ≤ p.1) : insPair l p = l ++ [p] := by
  unfold insPair
  obtain ⟨h1, h2⟩ := tw_all (f := fun q : Int × Int => decide (q.1 ≤ p.1)) (l := l) fun q hq => decide_eq_true (h q hq)
  rw [h1, h2]
theorem isort_fold {l : List (Int × Int)} : ∀ {acc : List (Int × Int)}, (acc ++ l).Pairwise (fun a b => a.1 ≤ b.1) → l.foldl insPair acc = acc ++ l := by
  induction l with
  | nil => intro acc _; simp
  | cons a l ih =>
    intro acc h
    have h' := List.pairwise_append.1 h
    rw [List.foldl_cons, insPair_end fun q hq => h'.2.2 q hq a (.head _), ih (by simpa using h)]
    simp
theorem isort_sorted {l : List (Int × Int)} (h : l.Pairwise fun a b => a.1 ≤ b.1) : isort l = l := by
  unfold isort; rw [isort_fold (by simpa using h)]; rfl
theorem isort_rising {l : List (Int × Int)} (h : Rising l) : isort l = l := isort_sorted (h.imp fun h => by omega)

section
variable {v : Vw} {g : Gh} {b : Int} {L : List Int} {vl : Int → Int}
/-- Of a key one is in at most. -/
theorem Inv.one_in (I : Inv v g) (hd : g.sd = true) {o o' : Int} (h : v.inn o) (h' : v.inn o') (hk : v.ky o = v.ky o') : o = o' := by
  have key : ∀ a a', v.inn a → v.inn a' → v.ky a = v.ky a' → ∀ f f', g.lk f → g.lk f' → v.op f = a → v.op f' = a' → (∀ k, g.lk k → v.op k = a' → g.st f' ≤ g.st k) → ¬ g.st f < g.st f' := by
    intro a a' ha ha' hk f f' hf hf' e e' hm hlt
    have := I.fst hd f f' hf hf' (by show v.ky (v.op f) = v.ky (v.op f'); rw [e, e']; exact hk) hlt (by rw [e']; exact ha'.2) fun k h1 h2 => hm k h1 (by rw [h2, e'])
    rw [e, ha.2] at this; omega
  obtain ⟨n, n1, n2⟩ := I.held o h.1 h.2
  obtain ⟨n', n1', n2'⟩ := I.held o' h'.1 h'.2
  obtain ⟨f, f1, f2, _, _, f5, _⟩ := I.first n1
  obtain ⟨f', f1', f2', _, _, f5', _⟩ := I.first n1'
  rw [n2] at f2 f5
  rw [n2'] at f2' f5'
  have h1 := key o o' h h' hk f f' f1 f1' f2 f2' f5'
  have h2 := key o' o h' h hk.symm f' f f1' f1 f2' f2 f5
  have h3 := I.inj f f' f1 f1' (by omega)
  rw [h3, f2'] at f2
  exact f2.symm

theorem prs_mem {p : Int × Int} : ∀ {B once : List Int}, p ∈ v.prsRun vl once B ↔ ∃ n ∈ B, v.inn (v.op n) ∧ v.op n ∉ once ∧ p = (v.key n, vl (v.op n))
  | [], once => by simp [Vw.prsRun]
  | n :: B, once => by
    unfold Vw.prsRun
    split
    · rename_i h
      rw [List.mem_cons, prs_mem (B := B)]
      constructor
      · rintro (rfl | ⟨m, h1, h2, h3, h4⟩)
        · exact ⟨n, .head _, h.1, h.2, rfl⟩
        · exact ⟨m, .tail _ h1, h2, fun q => h3 (List.mem_append.2 (.inl q)), h4⟩
      · rintro ⟨m, h1, h2, h3, h4⟩
        by_cases e : v.op m = v.op n
        · refine .inl ?_
          rw [h4]; show (v.ky (v.op m), vl (v.op m)) = (v.ky (v.op n), vl (v.op n)); rw [e]
        · rcases List.mem_cons.1 h1 with rfl | h1
          · exact (e rfl).elim
          · refine .inr ⟨m, h1, h2, fun q => ?_, h4⟩
            rcases List.mem_append.1 q with q | q
            · exact h3 q
            · exact e (List.mem_singleton.1 q)
    · rename_i h
      rw [prs_mem (B := B)]
      constructor
      · rintro ⟨m, h1, h2⟩; exact ⟨m, .tail _ h1, h2⟩
      · rintro ⟨m, h1, h2, h3, h4⟩
        rcases List.mem_cons.1 h1 with rfl | h1
        · exact (h ⟨h2, h3⟩).elim
        · exact ⟨m, h1, h2, h3, h4⟩
theorem prs_rising (I : Inv v g) (hd : g.sd = true) : ∀ {B once : List Int}, (∀ m ∈ B, g.lk m) → B.Pairwise (Lt v g) → Rising (v.prsRun vl once B)
  | [], once, _, _ => .nil
  | n :: B, once, hm, hp => by
    obtain ⟨h1, h2⟩ := List.pairwise_cons.1 hp
    unfold Vw.prsRun
    split
    · rename_i h
      refine .cons ?_ (prs_rising I hd (fun m q => hm m (.tail _ q)) h2)
      intro p hq
      obtain ⟨m, m1, m2, m3, rfl⟩ := prs_mem.1 hq
      show v.key n < v.key m
      have hl := h1 m m1
      rcases Int.lt_trichotomy (v.key n) (v.key m) with q | q | q
      · exact q
      · exact (m3 (List.mem_append.2 (.inr (List.mem_singleton.2 (I.one_in hd m2 h.1 q.symm))))).elim
      · unfold Lt at hl; omega
    · exact prs_rising I hd (fun m q => hm m (.tail _ q)) h2
/-- The pairs of a bucket's chain are those of the operations that are in. -/
theorem prs_iff (I : Inv v g) (hd : g.sd = true) (hn : ∀ m ∈ L, Nd v g b m) (hu : ∀ m, Nd v g b m → ¬ v.mkd m → m ∈ L) (p : Int × Int) : p ∈ v.prsRun vl [] L ↔ ∃ o, v.inn o ∧ v.bk (v.ky o) = b ∧ p = (v.ky o, vl o) := by
  rw [prs_mem]
  constructor
  · rintro ⟨n, h1, h2, _, h4⟩
    exact ⟨v.op n, h2, (hn n h1).2, h4⟩
  · rintro ⟨o, h1, h2, h3⟩
    obtain ⟨n, n1, n2⟩ := I.held o h1.1 h1.2
    obtain ⟨f, f1, f2, f3, _, _, f6⟩ := I.first n1
    rw [n2] at f2
    have hu' := f6 hd (by rw [n2, h1.2]; decide)
    exact ⟨f, hu f ⟨f1, by show v.bk (v.ky (v.op f)) = b; rw [f2]; exact h2⟩ hu', by rw [f2]; exact h1, by simp, by rw [h3]; show _ = (v.ky (v.op f), vl (v.op f)); rw [f2]⟩
end
end Go.Proofs.Ytccmjljlfgbicaa
