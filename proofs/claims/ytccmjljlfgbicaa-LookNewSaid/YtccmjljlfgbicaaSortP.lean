/- Pairs as cells, and how they are sorted. Plain. -/
import Derived.Test.YtccmjljlfgbicaaPrs
import Derived.Test.YtccmjljlfgbicaaLow
namespace Go.Proofs.Ytccmjljlfgbicaa

def pairsV (l : List (Int × Int)) : List Value := l.flatMap fun p => [.int .u64 p.1, .int .u64 p.2]
theorem pairsV_cons (p : Int × Int) (l : List (Int × Int)) : pairsV (p :: l) = .int .u64 p.1 :: .int .u64 p.2 :: pairsV l := rfl
theorem pairsV_append (l m : List (Int × Int)) : pairsV (l ++ m) = pairsV l ++ pairsV m := by simp [pairsV]
theorem pairsV_len (l : List (Int × Int)) : (pairsV l).length = l.length * 2 := by
  induction l with
  | nil => rfl
  | cons p l ih => rw [pairsV_cons]; simp only [List.length_cons, ih]; omega
theorem pairsV_one (l : List (Int × Int)) : ∀ u ∈ pairsV l, u.oneCell' = true := by
  intro u hu
  unfold pairsV at hu
  rw [List.mem_flatMap] at hu
  obtain ⟨p, _, h⟩ := hu
  simp at h
  rcases h with rfl | rfl <;> rfl
theorem pairsV_get {l : List (Int × Int)} {n : Nat} {p : Int × Int} (h : l[n]? = some p) : (pairsV l)[n * 2]? = some (.int .u64 p.1) ∧ (pairsV l)[n * 2 + 1]? = some (.int .u64 p.2) := by
  induction l generalizing n with
  | nil => simp at h
  | cons a l ih =>
    cases n with
    | zero =>
      simp at h
      subst h
      exact ⟨rfl, rfl⟩
    | succ n =>
      simp at h
      obtain ⟨i0, i1⟩ := ih h
      rw [pairsV_cons, show (n + 1) * 2 = n * 2 + 1 + 1 by omega]
      exact ⟨by simpa using i0, by simpa using i1⟩

abbrev SortedP (l : List (Int × Int)) : Prop := l.Pairwise fun a b => a.1 ≤ b.1
theorem drop_gt {l : List (Int × Int)} {k : Int} (h : SortedP l) : ∀ q ∈ l.dropWhile (fun q => decide (q.1 ≤ k)), k < q.1 := by
  induction l with
  | nil => simp
  | cons a l ih =>
    intro q hq
    have h := List.pairwise_cons.1 h
    by_cases ha : a.1 ≤ k
    · rw [List.dropWhile_cons_of_pos (by simpa using ha)] at hq
      exact ih h.2 q hq
    · rw [List.dropWhile_cons_of_neg (by simpa using ha)] at hq
      rcases List.mem_cons.1 hq with rfl | hq
      · omega
      · have := h.1 q hq; omega
theorem take_le {l : List (Int × Int)} {k : Int} : ∀ q ∈ l.takeWhile (fun q => decide (q.1 ≤ k)), q.1 ≤ k := by
  induction l with
  | nil => simp
  | cons a l ih =>
    intro q hq
    by_cases ha : a.1 ≤ k
    · rw [List.takeWhile_cons_of_pos (by simpa using ha)] at hq
      rcases List.mem_cons.1 hq with rfl | hq
      · exact ha
      · exact ih q hq
    · rw [List.takeWhile_cons_of_neg (by simpa using ha)] at hq
      cases hq
theorem insPair_sortedP {l : List (Int × Int)} (h : SortedP l) (p : Int × Int) : SortedP (insPair l p) := by
  unfold insPair
  have e : l.takeWhile (fun q => decide (q.1 ≤ p.1)) ++ l.dropWhile (fun q => decide (q.1 ≤ p.1)) = l := List.takeWhile_append_dropWhile
  have h' := h
  unfold SortedP at h' ⊢
  rw [← e, List.pairwise_append] at h'
  refine List.pairwise_append.2 ⟨h'.1, List.pairwise_cons.2 ⟨fun q hq => ?_, h'.2.1⟩, fun a ha b hb => ?_⟩
  · have := drop_gt h q hq; omega
  · rcases List.mem_cons.1 hb with rfl | hb
    · exact take_le a ha
    · exact h'.2.2 a ha b hb
theorem isort_snoc (l : List (Int × Int)) (p : Int × Int) : isort (l ++ [p]) = insPair (isort l) p := by simp [isort]
theorem insPair_len (l : List (Int × Int)) (p : Int × Int) : (insPair l p).length = l.length + 1 := by
  unfold insPair
  have e : (l.takeWhile (fun q => decide (q.1 ≤ p.1)) ++ l.dropWhile (fun q => decide (q.1 ≤ p.1))).length = l.length := by rw [List.takeWhile_append_dropWhile]
  simp only [List.length_append, List.length_cons] at e ⊢
  omega
theorem isort_run (l : List (Int × Int)) : ∀ n, n ≤ l.length → (isort (l.take n)).length = n ∧ SortedP (isort (l.take n))
  | 0, _ => ⟨by simp [isort], by simp [isort]⟩
  | n + 1, h => by
    obtain ⟨x, hx⟩ : ∃ x, l[n]? = some x := ⟨_, List.getElem?_eq_getElem (by omega)⟩
    obtain ⟨h1, h2⟩ := isort_run l n (by omega)
    have e : l.take (n + 1) = l.take n ++ [x] := by rw [List.take_add_one, hx]; rfl
    rw [e, isort_snoc, insPair_len]
    exact ⟨by omega, insPair_sortedP h2 x⟩
/-- Where the last one comes to stand. -/
theorem insPair_at {p : List (Int × Int)} {x : Int × Int} {j : Nat} (hs : SortedP p) (hj : j ≤ p.length) (hb : ∀ q ∈ p.drop j, x.1 < q.1) (ha : j = 0 ∨ ∃ q, p[j - 1]? = some q ∧ q.1 ≤ x.1) : insPair p x = p.take j ++ x :: p.drop j := by
  have hle : ∀ q ∈ p.take j, q.1 ≤ x.1 := by
    intro q hq
    rcases ha with rfl | ⟨y, hy, hyx⟩
    · simp at hq
    · obtain ⟨i, hi⟩ := List.getElem?_of_mem hq
      rw [List.getElem?_take] at hi
      split at hi
      · rename_i hij
        by_cases e : i = j - 1
        · subst e; rw [hy] at hi; injection hi with hi; rw [← hi]; exact hyx
        · obtain ⟨hi1, hi2⟩ := List.getElem?_eq_some_iff.1 hi
          obtain ⟨hy1, hy2⟩ := List.getElem?_eq_some_iff.1 hy
          have := List.pairwise_iff_getElem.1 hs i (j - 1) hi1 hy1 (by omega)
          rw [hi2, hy2] at this
          omega
      · cases hi
  have e : p = p.take j ++ p.drop j := (List.take_append_drop j p).symm
  have f1 : ∀ q ∈ p.take j, decide (q.1 ≤ x.1) = true := fun q hq => decide_eq_true (hle q hq)
  have e1 : p.takeWhile (fun q => decide (q.1 ≤ x.1)) = p.take j := by
    conv => lhs; rw [e]
    rw [List.takeWhile_append_of_pos f1]
    cases hd : p.drop j with
    | nil => simp
    | cons y r =>
      have := hb y (by rw [hd]; simp)
      rw [List.takeWhile_cons_of_neg (by simp; omega)]
      simp
  have e2 : p.dropWhile (fun q => decide (q.1 ≤ x.1)) = p.drop j := by
    conv => lhs; rw [e]
    rw [List.dropWhile_append_of_pos f1]
    cases hd : p.drop j with
    | nil => simp
    | cons y r =>
      have := hb y (by rw [hd]; simp)
      rw [List.dropWhile_cons_of_neg (by simp; omega)]
  unfold insPair
  rw [e1, e2]

/-- Four cells amid others. -/
theorem four_lo {A T : List Value} {a b c d : Value} {n : Nat} (h : A.length = n) : ((A ++ [a, b, c, d] ++ T).drop n).take 2 = [a, b] := by
  subst h; simp
theorem four_hi {A T : List Value} {a b c d : Value} {n : Nat} (h : A.length = n) : ((A ++ [a, b, c, d] ++ T).drop (n + 2)).take 2 = [c, d] := by
  have e : A ++ [a, b, c, d] ++ T = (A ++ [a, b]) ++ (c :: d :: T) := by simp
  rw [e, List.drop_left' (by simp; omega)]
  rfl
theorem put_lo {A T : List Value} {a b c d e f : Value} {n : Nat} (h : A.length = n) : (A ++ [a, b, c, d] ++ T).take n ++ [e, f] ++ (A ++ [a, b, c, d] ++ T).drop (n + 2) = A ++ [e, f, c, d] ++ T := by
  have e1 : (A ++ [a, b, c, d] ++ T).take n = A := by rw [List.append_assoc, List.take_left' h]
  have e2 : (A ++ [a, b, c, d] ++ T).drop (n + 2) = c :: d :: T := by
    rw [show A ++ [a, b, c, d] ++ T = (A ++ [a, b]) ++ (c :: d :: T) by simp, List.drop_left' (by simp; omega)]
  rw [e1, e2]; simp
theorem put_hi {A T : List Value} {a b c d e f : Value} {n : Nat} (h : A.length = n) : (A ++ [a, b, c, d] ++ T).take (n + 2) ++ [e, f] ++ (A ++ [a, b, c, d] ++ T).drop (n + 2 + 2) = A ++ [a, b, e, f] ++ T := by
  have e1 : (A ++ [a, b, c, d] ++ T).take (n + 2) = A ++ [a, b] := by
    rw [show A ++ [a, b, c, d] ++ T = (A ++ [a, b]) ++ (c :: d :: T) by simp, List.take_left' (by simp; omega)]
  have e2 : (A ++ [a, b, c, d] ++ T).drop (n + 2 + 2) = T := by rw [List.drop_left' (by simp; omega)]
  rw [e1, e2]; simp
end Go.Proofs.Ytccmjljlfgbicaa
