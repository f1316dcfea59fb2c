/- A scan's steps, one after the other. Plain. -/
import Derived.Test.YtccmjljlfgbicaaGreatZScn
import Derived.Test.YtccmjljlfgbicaaGreatZScnJ
import Derived.Test.YtccmjljlfgbicaaGreatZLaidK
import Derived.Test.YtccmjljlfgbicaaGreatZV1
namespace Go.Proofs.YtccmjljlfgbicaaGreat
open Go.ChangeShapes Go.WideShapes Go.ChangeAt Go.RowKit

def scnIter : Nat → St × Scn → St × Scn
  | 0, p => p
  | n + 1, p => (scnIter n p).1.scnStep (scnIter n p).2
theorem scnIter_next {n : Nat} {p : St × Scn} {s : St} {x : Scn} (h : scnIter n p = (s, x)) : scnIter (n + 1) p = s.scnStep x := by rw [scnIter, h]
theorem scnStep_done {s : St} {x : Scn} (h : x.done = true) : s.scnStep x = (s, x) := by unfold St.scnStep; rw [if_pos h]
theorem scnIter_done {i : Nat} {p q : St × Scn} (h : scnIter i p = q) (hd : q.2.done = true) : ∀ j, scnIter (i + j) p = q
  | 0 => h
  | j + 1 => by
    rw [← Nat.add_assoc, scnIter, scnIter_done h hd j]
    exact scnStep_done hd
theorem judgeL_len' (s : St) (c : GCall) (node v : Int) (l : List (Int × Int)) : (s.judgeL c node v l).length ≤ l.length + 1 := by
  unfold St.judgeL
  split
  · simp
  · omega
structure ScnGood (x : Scn) (m : Nat) : Prop where
  act : x.done = false → 0 ≤ x.phase → x.phase ≤ 2 → x.bucket = 0 ∧ ∃ l, x.lists = [l] ∧ l.length ≤ m
  next : 0 ≤ x.next ∧ x.next ≤ 18446744073709551615
theorem ScnGood.mono {x : Scn} {m n : Nat} (h : ScnGood x m) (hm : m ≤ n) : ScnGood x n :=
  ⟨fun a b c => let ⟨p, l, q, r⟩ := h.act a b c; ⟨p, l, q, Nat.le_trans r hm⟩, h.next⟩
theorem good_arrive {s : St} {x : Scn} {m : Nat} (hc : s.c.buckets = 1) (hb : x.bucket = 0) {l : List (Int × Int)} (hl : x.lists = [l]) (hm : l.length ≤ m) (hn : 0 ≤ x.next ∧ x.next ≤ 18446744073709551615) (n : Int) : ScnGood (s.scnArrive x n) m := by
  unfold St.scnArrive
  split
  · exact ⟨fun _ _ _ => ⟨hb, l, hl, hm⟩, hn⟩
  · rw [if_pos (by rw [hb, hc]; rfl)]
    exact ⟨fun a => (by cases a), hn⟩
theorem scnJudge_one (s : St) (x : Scn) (v : Int) (hb : x.bucket = 0) {l : List (Int × Int)} (hl : x.lists = [l]) : s.scnJudge x v = { x with lists := [s.judgeL x.call x.node v l] } := by
  obtain ⟨c, phase, bucket, node, next, lists, done, er, rd, prs⟩ := x
  simp only at hb hl
  subst hb; subst hl
  unfold St.scnJudge St.judgeL
  show (if _ then _ else _) = _
  split <;> rfl
theorem good_step {s : St} {x : Scn} {m : Nat} (hs : s.ok) (hc : s.c.buckets = 1) (h : ScnGood x m) : ScnGood (s.scnStep x).2 (m + 1) := by
  unfold St.scnStep
  by_cases hd : x.done = true
  · rw [if_pos hd]; exact h.mono (Nat.le_succ m)
  rw [if_neg hd]
  have hd' : x.done = false := by simpa using hd
  by_cases h0 : x.phase = 0
  · rw [if_pos h0]
    obtain ⟨hb, l, hl, hm⟩ := h.act hd' (by omega) (by omega)
    exact (good_arrive hc hb hl hm h.next _).mono (Nat.le_succ m)
  rw [if_neg h0]
  by_cases h1 : x.phase = 1
  · rw [if_pos h1]
    obtain ⟨hb, l, hl, hm⟩ := h.act hd' (by omega) (by omega)
    exact ⟨fun _ _ _ => ⟨hb, l, hl, by omega⟩, peek_range hs _⟩
  rw [if_neg h1]
  by_cases h2 : x.phase = 2
  · rw [if_pos h2]
    obtain ⟨hb, l, hl, hm⟩ := h.act hd' (by omega) (by omega)
    rw [scnJudge_one s x _ hb hl]
    exact good_arrive (x := { x with lists := [s.judgeL x.call x.node (s.peek (s.wordAt (s.carried x.node))) l] }) hc hb rfl (by have := judgeL_len' s x.call x.node (s.peek (s.wordAt (s.carried x.node))) l; omega) h.next _
  rw [if_neg h2]
  exact ⟨fun a => (by cases a), h.next⟩
theorem scnStep_same (s : St) (x : Scn) : (s.scnStep x).1.c = s.c ∧ (s.scnStep x).1.ops = s.ops ∧ (s.scnStep x).1.nodes = s.nodes ∧ (s.scnStep x).1.thr = s.thr ∧ (s.scnStep x).1.words = s.words := by
  unfold St.scnStep
  split; · exact ⟨rfl, rfl, rfl, rfl, rfl⟩
  split; · exact ⟨rfl, rfl, rfl, rfl, rfl⟩
  split; · exact ⟨rfl, rfl, rfl, rfl, rfl⟩
  split <;> exact ⟨rfl, rfl, rfl, rfl, rfl⟩
theorem scnIter_same (p : St × Scn) : ∀ n, (scnIter n p).1.c = p.1.c ∧ (scnIter n p).1.ops = p.1.ops ∧ (scnIter n p).1.nodes = p.1.nodes ∧ (scnIter n p).1.thr = p.1.thr ∧ (scnIter n p).1.words = p.1.words
  | 0 => ⟨rfl, rfl, rfl, rfl, rfl⟩
  | n + 1 => by
    have a := scnStep_same (scnIter n p).1 (scnIter n p).2
    have b := scnIter_same p n
    rw [scnIter]
    exact ⟨a.1.trans b.1, a.2.1.trans b.2.1, a.2.2.1.trans b.2.2.1, a.2.2.2.1.trans b.2.2.2.1, a.2.2.2.2.trans b.2.2.2.2⟩
end Go.Proofs.YtccmjljlfgbicaaGreat

/- What a scan tells rises, is in its range, and no more than its limit, whatever words are laid between its steps. Plain. -/
namespace Go.Proofs.YtccmjljlfgbicaaGreat
open Go.ChangeShapes Go.WideShapes Go.ChangeAt Go.RowKit

structure InR (c : GCall) (l : List (Int × Int)) : Prop where
  rises : Rising l
  range : ∀ q ∈ l, c.key ≤ q.1 ∧ q.1 ≤ c.val
structure Told (c : GCall) (l : List (Int × Int)) : Prop where
  in_ : InR c l
  few : l.length ≤ c.limit.toNat
structure ScnR (v : Vw) (j : Nat) (c : GCall) (x : Scn) : Prop where
  call : x.call = c ∨ x.done = true
  end_ : Told c x.pairs
  phase : x.done = false → 0 ≤ x.phase ∧ x.phase ≤ 2
  on : x.done = false → x.bucket = 0 ∧ ∃ l, x.lists = [l] ∧ InR c l ∧ (x.phase = 0 → l = []) ∧ (x.phase ≠ 0 → ∃ t : Nat, t < j ∧ x.node = 2 + t ∧ ∀ q ∈ l, q.1 ≤ v.key x.node) ∧ (x.phase = 2 → x.next / 2 = v.to x.node)
theorem told_nil (c : GCall) : Told c [] := ⟨⟨List.Pairwise.nil, fun q hq => by cases hq⟩, by simp⟩
theorem told_take {c : GCall} {l : List (Int × Int)} (h : InR c l) : Told c (l.take c.limit.toNat) :=
  ⟨⟨h.rises.sublist (List.take_sublist _ _), fun q hq => h.range q (List.mem_of_mem_take hq)⟩, by rw [List.length_take]; omega⟩
theorem rising_snoc {l : List (Int × Int)} {k a : Int} (h : Rising l) (hk : ∀ q ∈ l, q.1 ≤ k) (hf : freshP l k = true) : Rising (l ++ [(k, a)]) := by
  refine List.pairwise_append.2 ⟨h, List.pairwise_singleton _ _, fun q hq r hr => ?_⟩
  rw [List.mem_singleton] at hr
  subst hr
  show q.1 < k
  rcases List.eq_nil_or_concat l with e | ⟨l0, p, e⟩
  · rw [e] at hq; cases hq
  · rw [List.concat_eq_append] at e
    subst e
    have hp := hk p (by simp)
    have hne : p.1 ≠ k := by
      unfold freshP at hf
      rw [List.getLast?_concat] at hf
      simpa using hf
    rcases List.mem_append.1 hq with hq | hq
    · have := (List.pairwise_append.1 h).2.2 q hq p (by simp)
      omega
    · rw [List.mem_singleton] at hq
      subst hq
      omega
section
variable {v : Vw} {j : Nat} {c : GCall} {s : St} {x : Scn}
theorem scnR_arrive (hb : s.c.buckets = 1) (hc : x.call = c) (hx : x.bucket = 0) {l : List (Int × Int)} (hl : x.lists = [l]) (hi : InR c l) (hp : Told c x.pairs) {n : Int} (hn : n = 0 ∨ ∃ t : Nat, t < j ∧ n = 2 + t ∧ ∀ q ∈ l, q.1 ≤ v.key n) : ScnR v j c (s.scnArrive x n) := by
  unfold St.scnArrive
  split
  · rename_i h
    refine ⟨.inl hc, hp, fun _ => ⟨(by decide : (0 : Int) ≤ 1), (by decide : (1 : Int) ≤ 2)⟩, fun _ => ⟨hx, l, hl, hi, fun e => (by cases e), fun _ => ?_, fun e => (by cases e)⟩⟩
    rcases hn with e | ⟨t, h1, h2, h3⟩
    · exact (h.1 e).elim
    · exact ⟨t, h1, h2, h3⟩
  · rw [if_pos (by rw [hx, hb]; rfl)]
    refine ⟨.inr rfl, ?_, fun e => (by cases e), fun e => (by cases e)⟩
    show Told c (mrg x.lists x.call.limit)
    rw [hl, hc]
    exact told_take hi
theorem scnR_step (h : LaidV v j) (hb : s.c.buckets = 1) (hnx : ∀ n, s.peek (s.nextAt n) = v.nx n) (hky : ∀ n, s.key n = v.key n) (hx : ScnR v j c x) : ScnR v j c (s.scnStep x).2 := by
  unfold St.scnStep
  by_cases hd : x.done = true
  · rw [if_pos hd]; exact hx
  rw [if_neg hd]
  have hd' : x.done = false := by simpa using hd
  obtain ⟨p0, p2⟩ := hx.phase hd'
  obtain ⟨hbk, l, hl, hi, h0, hpos, h2⟩ := hx.on hd'
  have hc : x.call = c := hx.call.resolve_right hd
  have hto : ∀ t : Nat, t ≤ j → v.to (1 + t) = 0 ∨ ∃ u : Nat, u < j ∧ v.to (1 + t) = 2 + u ∧ u = t := by
    intro t ht
    by_cases hlt : t < j
    · exact .inr ⟨t, hlt, h.to t hlt, rfl⟩
    · have : t = j := by omega
      subst this
      exact .inl h.end_
  by_cases e0 : x.phase = 0
  · rw [if_pos e0]
    have hh : s.headAt x.bucket = 1 := by
      unfold St.headAt
      rw [hbk, hb]; rfl
    have hl0 := h0 e0
    subst hl0
    show ScnR v j c (s.scnArrive x (s.peek (s.nextAt (s.headAt x.bucket)) / 2))
    rw [hh, hnx]
    refine scnR_arrive hb hc hbk hl hi hx.end_ ?_
    rcases hto 0 (Nat.zero_le j) with e | ⟨u, hu, e, _⟩
    · exact .inl e
    · exact .inr ⟨u, hu, e, fun q hq => by cases hq⟩
  rw [if_neg e0]
  obtain ⟨t, ht, hnode, hle⟩ := hpos e0
  by_cases e1 : x.phase = 1
  · rw [if_pos e1]
    exact ⟨.inl hc, hx.end_, fun _ => ⟨(by decide : (0 : Int) ≤ 2), (by decide : (2 : Int) ≤ 2)⟩, fun _ => ⟨hbk, l, hl, hi, fun e => (by cases e), fun _ => ⟨t, ht, hnode, hle⟩, fun _ => by show s.peek (s.nextAt x.node) / 2 = _; rw [hnx]⟩⟩
  rw [if_neg e1]
  have e2 : x.phase = 2 := by omega
  rw [if_pos e2]
  show ScnR v j c (s.scnArrive (s.scnJudge x (s.peek (s.wordAt (s.carried x.node)))) (x.next / 2))
  rw [scnJudge_one s x _ hbk hl]
  have hi' : InR c (s.judgeL x.call x.node (s.peek (s.wordAt (s.carried x.node))) l) ∧ ∀ q ∈ s.judgeL x.call x.node (s.peek (s.wordAt (s.carried x.node))) l, q.1 ≤ v.key x.node := by
    unfold St.judgeL
    split
    · rename_i hq
      obtain ⟨_, k1, k2, k3⟩ := hq
      rw [hc] at k1 k2
      rw [hky] at k1 k2 k3 ⊢
      refine ⟨⟨rising_snoc hi.rises hle k3, fun q hq => ?_⟩, fun q hq => ?_⟩
      · rcases List.mem_append.1 hq with hq | hq
        · exact hi.range q hq
        · rw [List.mem_singleton] at hq; subst hq; exact ⟨k1, k2⟩
      · rcases List.mem_append.1 hq with hq | hq
        · exact hle q hq
        · rw [List.mem_singleton] at hq; subst hq; exact Int.le_refl _
    · exact ⟨hi, hle⟩
  rw [h2 e2]
  refine scnR_arrive (x := { x with lists := [s.judgeL x.call x.node (s.peek (s.wordAt (s.carried x.node))) l] }) hb hc hbk rfl hi'.1 hx.end_ ?_
  rcases hto (t + 1) (by omega) with e | ⟨u, hu, e, hut⟩
  · refine .inl ?_
    rw [hnode, show (2 + (t : Int)) = 1 + ((t + 1 : Nat) : Int) by omega]; exact e
  · have en : v.to x.node = 2 + (u : Int) := by rw [hnode, show (2 + (t : Int)) = 1 + ((t + 1 : Nat) : Int) by omega]; exact e
    refine .inr ⟨u, hu, en, fun q hq => ?_⟩
    have h1 := hi'.2 q hq
    rw [hnode] at h1
    have h3 := h.rise' (a := t) (b := u) (by omega) hu
    rw [en]
    exact Int.le_trans h1 h3
theorem scnR_new (v : Vw) (j : Nat) (s : St) (thread : Int) (c : GCall) (hb : s.c.buckets = 1) : ScnR v j c (s.scnNew thread c).2 := by
  unfold St.scnNew
  split
  · split
    · refine ⟨.inl rfl, told_nil c, fun _ => ⟨(by decide : (0 : Int) ≤ 0), (by decide : (0 : Int) ≤ 2)⟩, fun _ => ⟨rfl, [], ?_, ⟨List.Pairwise.nil, fun q hq => by cases hq⟩, fun _ => rfl, fun e => (e rfl).elim, fun e => (by cases e)⟩⟩
      unfold Scn.start
      rw [hb]; rfl
    · exact ⟨.inr rfl, told_nil c, fun e => (by cases e), fun e => (by cases e)⟩
  · exact ⟨.inr rfl, told_nil c, fun e => (by cases e), fun e => (by cases e)⟩
end
structure OnlyW (v : Vw) (s : St) : Prop where
  b : s.c.buckets = 1
  nx : ∀ n, s.peek (s.nextAt n) = v.nx n
  ky : ∀ n, s.key n = v.key n
theorem OnlyW.step {v : Vw} {s : St} (h : OnlyW v s) (x : Scn) : OnlyW v (s.scnStep x).1 := by
  obtain ⟨h1, h2, h3, h4, h5⟩ := scnStep_same s x
  refine ⟨by rw [h1]; exact h.b, fun n => ?_, fun n => ?_⟩
  · rw [← h.nx n]; unfold St.peek St.nextAt; rw [h1, h5]
  · rw [← h.ky n]; unfold St.key St.call St.callOf St.carried; rw [h2, h3]
theorem OnlyW.turn {v : Vw} {s : St} (hok : s.ok) (h : OnlyW v s) (o old z : Int) : OnlyW v (s.swap (s.wordAt o) old z) := by
  refine ⟨h.b, fun n => ?_, fun n => h.ky n⟩
  rw [← h.nx n]
  show (s.swap (s.wordAt o) old z).vw.nx n = s.vw.nx n
  cases hs : s.swaps (s.wordAt o) old with
  | true => rw [vw_swap_word hok hs]
  | false => rw [vw_swap_no hs]
end Go.Proofs.YtccmjljlfgbicaaGreat

/- What a scan that nobody disturbs tells, over a laid chain; two ranges beside one another. Plain. -/
namespace Go.Proofs.YtccmjljlfgbicaaGreat
open Go.ChangeShapes Go.WideShapes Go.ChangeAt Go.RowKit

/-! ### A scan that is begun leaves the chain -/
theorem begin_new {s : St} {n : Int} {c : GCall} (hk : c.kind ≠ 1) (o : Int) : (s.begin n c).1.callOf o = s.callOf o ∨ (s.callOf o = none ∧ (s.begin n c).1.callOf o = some c) := by
  have same : ∀ x : List Thr, St.callOf { s with thr := x } o = s.callOf o := fun _ => rfl
  unfold St.begin
  split; · exact .inl rfl
  split; · exact .inl rfl
  split; · exact .inl rfl
  split; · exact .inl rfl
  unfold St.callOf
  show look1 (s.ops ++ [_]) o = look1 s.ops o ∨ (look1 s.ops o = none ∧ look1 (s.ops ++ [_]) o = some c)
  rw [look1_append]
  cases look1 s.ops o with
  | some u => exact .inl rfl
  | none =>
    simp only [Option.none_or]
    split
    · exact .inr ⟨trivial, rfl⟩
    · exact .inl rfl

structure Alike (s s' : St) : Prop where
  c : s'.c = s.c
  words : s'.words = s.words
  nodes : s'.nodes = s.nodes
  call : ∀ o u, s.callOf o = some u → s'.callOf o = some u
theorem Alike.refl (s : St) : Alike s s := ⟨rfl, rfl, rfl, fun _ _ h => h⟩
theorem Alike.trans {a b c : St} (h : Alike a b) (k : Alike b c) : Alike a c := ⟨k.c.trans h.c, k.words.trans h.words, k.nodes.trans h.nodes, fun o u q => k.call o u (h.call o u q)⟩
theorem alike_begin (s : St) (n : Int) (c : GCall) : Alike s (s.begin n c).1 := by
  obtain ⟨a, b, d, _⟩ := begin_same s n c
  exact ⟨a, b, d, fun o u h => begin_callOf h⟩
theorem alike_iter (p : St × Scn) (n : Nat) : Alike p.1 (scnIter n p).1 := by
  obtain ⟨a, b, c, _, e⟩ := scnIter_same p n
  exact ⟨a, e, c, fun o u h => by unfold St.callOf at h ⊢; rw [b]; exact h⟩
theorem alike_new (s : St) (th : Int) (c : GCall) : Alike s (s.scnNew th c).1 := by
  unfold St.scnNew
  split
  · split <;> exact alike_begin s th c
  · exact Alike.refl s
theorem kind_call {s : St} {o : Int} (h : (s.call o).kind = 1) : ∃ u, s.callOf o = some u := by
  unfold St.call at h
  cases hc : s.callOf o with
  | some u => exact ⟨u, rfl⟩
  | none => rw [hc] at h; cases h
section
variable {s s' : St} {j : Nat}
theorem Alike.pk (h : Alike s s') (p : Int) : s'.peek p = s.peek p := by unfold St.peek; rw [h.words]
theorem Alike.nx (h : Alike s s') (n : Int) : s'.peek (s'.nextAt n) = s.peek (s.nextAt n) := by rw [h.pk]; unfold St.nextAt; rw [h.c]
theorem Alike.wd (h : Alike s s') (o : Int) : s'.peek (s'.wordAt o) = s.peek (s.wordAt o) := by rw [h.pk]; unfold St.wordAt; rw [h.c]
theorem Alike.car (h : Alike s s') (n : Int) : s'.carried n = s.carried n := by unfold St.carried; rw [h.nodes]
theorem Alike.at_ (h : Alike s s') {n : Int} (hk : (s.call (s.carried n)).kind = 1) : s'.call (s'.carried n) = s.call (s.carried n) := by
  obtain ⟨u, hu⟩ := kind_call hk
  rw [h.car]; unfold St.call; rw [hu, h.call _ _ hu]
theorem Alike.key (h : Alike s s') {n : Int} (hk : (s.call (s.carried n)).kind = 1) : s'.key n = s.key n := by unfold St.key; rw [h.at_ hk]

theorem LaidV.alike (h : LaidV s.vw j) (ha : Alike s s') (hn : ∀ o, (s'.call o).kind = 1 → (s.call o).kind = 1) : LaidV s'.vw j := by
  have hins : ∀ t : Nat, t < j → (s.call (s.carried (2 + t))).kind = 1 := h.ins
  have hkey : ∀ t : Nat, t < j → s'.key (2 + t) = s.key (2 + t) := fun t ht => ha.key (hins t ht)
  refine ⟨by show s'.c.buckets = 1; rw [ha.c]; exact h.nb, fun k => by show bucketOf k s'.c.buckets = 0; rw [ha.c]; exact h.bk k, by show s'.peek (s'.nextAt 1) % 2 = 0; rw [ha.nx]; exact h.hd, fun t ht => by show s'.peek (s'.nextAt _) / 2 = _; rw [ha.nx]; exact h.to t ht, by show s'.peek (s'.nextAt _) / 2 = _; rw [ha.nx]; exact h.end_, fun t ht => by show 0 ≤ s'.carried _; rw [ha.car]; exact h.opr t ht, fun t ht => ?_, fun t ht => ?_, fun o => by show 0 ≤ s'.peek (s'.wordAt o); rw [ha.wd]; exact h.wd0 o, fun o h1 h2 => ?_⟩
  · show (s'.call (s'.carried (2 + t))).kind = 1
    rw [ha.at_ (hins t ht)]; exact hins t ht
  · show s'.key (2 + t) ≤ s'.key (3 + t)
    rw [hkey t (by omega), show (3 + (t : Int)) = 2 + ((t + 1 : Nat) : Int) by omega, hkey (t + 1) ht, show (2 + ((t + 1 : Nat) : Int)) = 3 + (t : Int) by omega]
    exact h.rise t ht
  · obtain ⟨t, ht, hc⟩ := h.held o (hn o h1) (by have h2' : s'.peek (s'.wordAt o) = 1 := h2; rw [ha.wd] at h2'; exact h2')
    exact ⟨t, ht, by show s'.carried (2 + t) = o; rw [ha.car]; exact hc⟩
theorem begin_kind {n : Int} {c : GCall} (hk : c.kind ≠ 1) (o : Int) (h : ((s.begin n c).1.call o).kind = 1) : (s.call o).kind = 1 := by
  unfold St.call at h ⊢
  rcases begin_new (s := s) (n := n) hk o with e | ⟨_, e⟩
  · rw [e] at h; exact h
  · rw [e] at h; exact (hk h).elim
theorem laidV_scnNew (h : LaidV s.vw j) (th : Int) (c : GCall) : LaidV (s.scnNew th c).1.vw j := by
  unfold St.scnNew
  split
  · rename_i hk
    have hb : LaidV (s.begin th c).1.vw j := h.alike (alike_begin s th c) fun o => begin_kind (by omega) o
    split <;> exact hb
  · exact h
end

/-! ### What it tells -/
def St.scnL (s : St) (c : GCall) : Nat → Nat → List (Int × Int) → List (Int × Int)
  | _, 0, l => l
  | t, k + 1, l => if s.key (2 + (t : Int)) ≤ c.val then s.scnL c (t + 1) k (s.judgeL c (2 + (t : Int)) (s.peek (s.wordAt (s.carried (2 + (t : Int))))) l) else l
theorem scnL_len (s : St) (c : GCall) : ∀ k t l, (s.scnL c t k l).length ≤ l.length + k
  | 0, t, l => by unfold St.scnL; omega
  | k + 1, t, l => by
    unfold St.scnL
    split
    · have a := scnL_len s c k (t + 1) (s.judgeL c (2 + (t : Int)) (s.peek (s.wordAt (s.carried (2 + (t : Int))))) l)
      have b := judgeL_len' s c (2 + (t : Int)) (s.peek (s.wordAt (s.carried (2 + (t : Int))))) l
      omega
    · omega
theorem judgeL_alike {s s' : St} (ha : Alike s s') (c : GCall) {n v : Int} {l : List (Int × Int)} (hk : (s.call (s.carried n)).kind = 1) : s'.judgeL c n v l = s.judgeL c n v l := by
  unfold St.judgeL; rw [ha.key hk, ha.at_ hk]
theorem scnL_alike {s s' : St} {j : Nat} (ha : Alike s s') (h : LaidV s.vw j) (c : GCall) : ∀ k t l, t + k ≤ j → s'.scnL c t k l = s.scnL c t k l
  | 0, t, l, _ => rfl
  | k + 1, t, l, hk => by
    have hi : (s.call (s.carried (2 + (t : Int)))).kind = 1 := h.ins t (by omega)
    unfold St.scnL
    rw [ha.key hi, ha.car, ha.wd, judgeL_alike ha c hi, scnL_alike ha h c k (t + 1) _ (by omega)]

theorem scnIter_add (n : Nat) (p : St × Scn) : ∀ m, scnIter (n + m) p = scnIter m (scnIter n p)
  | 0 => rfl
  | m + 1 => by rw [← Nat.add_assoc, scnIter, scnIter, scnIter_add n p m]
theorem scnIter_one (p : St × Scn) : scnIter 1 p = p.1.scnStep p.2 := rfl
abbrev St.at (s : St) (n : Int) : St := { s with steps := n }
theorem scnStep_at (s : St) (n : Int) (x : Scn) : ∃ n', ((s.at n).scnStep x).1 = s.at n' ∧ (n' = n ∨ n' = wrap64 (n + 1)) ∧ ((s.at n).scnStep x).2 = (s.scnStep x).2 := by
  have ht : ∀ p, tick s.words p n = n ∨ tick s.words p n = wrap64 (n + 1) := fun p => by
    unfold tick; split
    · exact .inr rfl
    · exact .inl rfl
  unfold St.scnStep
  split; · exact ⟨n, rfl, .inl rfl, rfl⟩
  split; · exact ⟨_, rfl, ht _, rfl⟩
  split; · exact ⟨_, rfl, ht _, rfl⟩
  split
  · exact ⟨_, rfl, ht _, rfl⟩
  · exact ⟨n, rfl, .inl rfl, rfl⟩
structure Ended (y : Scn) (l : List (Int × Int)) : Prop where
  done : y.done = true
  rdone : y.rdone = true
  pairs : y.pairs = l
section
variable {s : St} {j : Nat} {c : GCall}
theorem scn_arrive_end (hb : s.c.buckets = 1) {x : Scn} (hx : x.bucket = 0) (hc : x.call = c) {l : List (Int × Int)} (hl : x.lists = [l]) {n : Int} (h : n = 0 ∨ c.val < s.key n) : Ended (s.scnArrive x n) (l.take c.limit.toNat) := by
  unfold St.scnArrive
  rw [if_neg (by rw [hc]; rintro ⟨h1, h2⟩; rcases h with h | h <;> omega), if_pos (by rw [hx, hb]; rfl)]
  exact ⟨rfl, rfl, by show mrg x.lists x.call.limit = _; rw [hl, hc]; rfl⟩
theorem scn_arrive_on {x : Scn} {n : Int} (h0 : n ≠ 0) (hk : s.key n ≤ x.call.val) : s.scnArrive x n = { x with node := n, phase := 1 } := by
  unfold St.scnArrive
  rw [if_pos ⟨h0, hk⟩]
theorem wrap64_in {n : Int} (h0 : 0 ≤ n) (h1 : n ≤ 9223372036854775807) : wrap64 n = n := by unfold wrap64; omega
theorem scn_go (h : LaidV s.vw j) : ∀ (k t : Nat) (l : List (Int × Int)) (n nx er : Int) (rd : Bool) (prs : List (Int × Int)), t + k = j → 0 < k → s.key (2 + (t : Int)) ≤ c.val → 0 ≤ n → n + 2 * k < 9223372036854775807 →
    ∃ m n' y, m ≤ 2 * k ∧ scnIter m (s.at n, ⟨c, 1, 0, 2 + (t : Int), nx, [l], false, er, rd, prs⟩) = (s.at n', y) ∧ (0 ≤ n' ∧ n' ≤ n + m) ∧ Ended y ((s.scnL c t k l).take c.limit.toNat)
  | 0, t, l, n, nx, er, rd, prs, _, hk, _, _, _ => (Nat.lt_irrefl 0 hk).elim
  | k + 1, t, l, n, nx, er, rd, prs, hj, _, hkey, n0, n1 => by
    have hbu : s.c.buckets = 1 := h.nb
    obtain ⟨r, hr⟩ : ∃ r, r = s.peek (s.nextAt (2 + (t : Int))) := ⟨_, rfl⟩
    obtain ⟨l1, hl1⟩ : ∃ l1, l1 = s.judgeL c (2 + (t : Int)) (s.peek (s.wordAt (s.carried (2 + (t : Int))))) l := ⟨_, rfl⟩
    obtain ⟨na, a1, a2, a3⟩ := scnStep_at s n ⟨c, 1, 0, 2 + (t : Int), nx, [l], false, er, rd, prs⟩
    have b1 : (s.scnStep ⟨c, 1, 0, 2 + (t : Int), nx, [l], false, er, rd, prs⟩).2 = ⟨c, 2, 0, 2 + (t : Int), r, [l], false, er, rd, prs⟩ := by rw [hr]; rfl
    rw [b1] at a3
    have na1 : 0 ≤ na ∧ na ≤ n + 1 := by
      rcases a2 with e | e
      · omega
      · have := wrap64_in (n := n + 1) (by omega) (by omega)
        omega
    obtain ⟨nb, c1, c2, c3⟩ := scnStep_at s na ⟨c, 2, 0, 2 + (t : Int), r, [l], false, er, rd, prs⟩
    have nb1 : 0 ≤ nb ∧ nb ≤ n + 2 := by
      rcases c2 with e | e
      · omega
      · have := wrap64_in (n := na + 1) (by omega) (by omega)
        omega
    have d1 : (s.scnStep ⟨c, 2, 0, 2 + (t : Int), r, [l], false, er, rd, prs⟩).2 = s.scnArrive ⟨c, 2, 0, 2 + (t : Int), r, [l1], false, er, rd, prs⟩ (r / 2) := by
      show s.scnArrive (s.scnJudge ⟨c, 2, 0, 2 + (t : Int), r, [l], false, er, rd, prs⟩ _) _ = _
      rw [scnJudge_one s ⟨c, 2, 0, 2 + (t : Int), r, [l], false, er, rd, prs⟩ _ rfl rfl, hl1]
    rw [d1] at c3
    have h2 : scnIter 2 (s.at n, ⟨c, 1, 0, 2 + (t : Int), nx, [l], false, er, rd, prs⟩) = (s.at nb, s.scnArrive ⟨c, 2, 0, 2 + (t : Int), r, [l1], false, er, rd, prs⟩ (r / 2)) := by
      show St.scnStep (St.scnStep (s.at n) ⟨c, 1, 0, 2 + (t : Int), nx, [l], false, er, rd, prs⟩).1 (St.scnStep (s.at n) ⟨c, 1, 0, 2 + (t : Int), nx, [l], false, er, rd, prs⟩).2 = _
      rw [a1, a3]
      exact Prod.ext c1 c3
    have hto : r / 2 = s.vw.to (1 + ((t + 1 : Nat) : Int)) := by
      rw [hr, show (1 + ((t + 1 : Nat) : Int)) = 2 + (t : Int) by omega]; rfl
    have hL : s.scnL c t (k + 1) l = s.scnL c (t + 1) k l1 := by
      rw [St.scnL, if_pos hkey, hl1]
    rw [hto] at h2
    have stop : (s.vw.to (1 + ((t + 1 : Nat) : Int)) = 0 ∨ c.val < s.key (s.vw.to (1 + ((t + 1 : Nat) : Int)))) → s.scnL c (t + 1) k l1 = l1 →
        ∃ m n' y, m ≤ 2 * (k + 1) ∧ scnIter m (s.at n, ⟨c, 1, 0, 2 + (t : Int), nx, [l], false, er, rd, prs⟩) = (s.at n', y) ∧ (0 ≤ n' ∧ n' ≤ n + m) ∧ Ended y ((s.scnL c t (k + 1) l).take c.limit.toNat) := by
      intro hs he
      refine ⟨2, nb, _, by omega, h2, by omega, ?_⟩
      rw [hL, he]
      exact scn_arrive_end (x := ⟨c, 2, 0, 2 + (t : Int), r, [l1], false, er, rd, prs⟩) hbu rfl rfl rfl hs
    cases k with
    | zero =>
      refine stop (.inl ?_) rfl
      rw [show t + 1 = j by omega]; exact h.end_
    | succ k =>
      have hn : s.vw.to (1 + ((t + 1 : Nat) : Int)) = 2 + ((t + 1 : Nat) : Int) := h.to (t + 1) (by omega)
      by_cases hk2 : s.key (2 + ((t + 1 : Nat) : Int)) ≤ c.val
      · rw [hn, scn_arrive_on (by omega) hk2] at h2
        obtain ⟨m, n', y, m1, m2, m3, m4⟩ := scn_go h (k + 1) (t + 1) l1 nb r er rd prs (by omega) (by omega) hk2 nb1.1 (by omega)
        refine ⟨2 + m, n', y, by omega, ?_, by omega, ?_⟩
        · rw [scnIter_add, h2]
          exact m2
        · rw [hL]; exact m4
      · refine stop (.inr (by rw [hn]; omega)) ?_
        unfold St.scnL
        rw [if_neg hk2]

theorem scnL_out (s : St) {c : GCall} (hc : c.val < c.key) : ∀ k t l, s.scnL c t k l = l
  | 0, t, l => rfl
  | k + 1, t, l => by
    unfold St.scnL
    split
    · rw [scnL_out s hc k]
      unfold St.judgeL
      rw [if_neg (by omega)]
    · rfl
theorem scn_all (h : LaidV s.vw j) (hj : j ≤ 100000) {n : Int} (n0 : 0 ≤ n ∧ n ≤ 100000) : ∃ m n' y, m ≤ 1 + 2 * j ∧ scnIter m (s.at n, Scn.start c s.c.buckets) = (s.at n', y) ∧ (0 ≤ n' ∧ n' ≤ n + m) ∧ Ended y ((s.scnL c 0 j []).take c.limit.toNat) := by
  have hbu : s.c.buckets = 1 := h.nb
  by_cases hd : c.val < c.key ∨ c.limit < 1
  · refine ⟨0, n, _, by omega, rfl, by omega, ?_⟩
    have e : (s.scnL c 0 j []).take c.limit.toNat = [] := by
      rcases hd with hd | hd
      · rw [scnL_out s hd]; exact List.take_nil
      · rw [show c.limit.toNat = 0 by omega]; rfl
    rw [e]
    unfold Scn.start
    exact ⟨decide_eq_true hd, decide_eq_true hd, rfl⟩
  · have hx : Scn.start c s.c.buckets = ⟨c, 0, 0, 0, 0, [[]], false, 0, false, []⟩ := by
      unfold Scn.start
      rw [hbu, decide_eq_false hd]; rfl
    rw [hx]
    obtain ⟨na, a1, a2, a3⟩ := scnStep_at s n ⟨c, 0, 0, 0, 0, [[]], false, 0, false, []⟩
    have na1 : 0 ≤ na ∧ na ≤ n + 1 := by
      rcases a2 with e | e
      · omega
      · have := wrap64_in (n := n + 1) (by omega) (by omega)
        omega
    have hh : s.headAt 0 = 1 := by unfold St.headAt; rw [hbu]; rfl
    have b1 : (s.scnStep ⟨c, 0, 0, 0, 0, [[]], false, 0, false, []⟩).2 = s.scnArrive ⟨c, 0, 0, 0, 0, [[]], false, 0, false, []⟩ (s.vw.to (1 + ((0 : Nat) : Int))) := by
      show s.scnArrive _ (s.peek (s.nextAt (s.headAt 0)) / 2) = _
      rw [hh]; rfl
    rw [b1] at a3
    have h1 : scnIter 1 (s.at n, ⟨c, 0, 0, 0, 0, [[]], false, 0, false, []⟩) = (s.at na, s.scnArrive ⟨c, 0, 0, 0, 0, [[]], false, 0, false, []⟩ (s.vw.to (1 + ((0 : Nat) : Int)))) := by
      show St.scnStep (s.at n) _ = _
      exact Prod.ext a1 a3
    have stop : (s.vw.to (1 + ((0 : Nat) : Int)) = 0 ∨ c.val < s.key (s.vw.to (1 + ((0 : Nat) : Int)))) → s.scnL c 0 j [] = [] →
        ∃ m n' y, m ≤ 1 + 2 * j ∧ scnIter m (s.at n, ⟨c, 0, 0, 0, 0, [[]], false, 0, false, []⟩) = (s.at n', y) ∧ (0 ≤ n' ∧ n' ≤ n + m) ∧ Ended y ((s.scnL c 0 j []).take c.limit.toNat) := by
      intro hs he
      refine ⟨1, na, _, by omega, h1, by omega, ?_⟩
      rw [he]
      exact scn_arrive_end (x := ⟨c, 0, 0, 0, 0, [[]], false, 0, false, []⟩) hbu rfl rfl rfl hs
    cases j with
    | zero => exact stop (.inl h.end_) rfl
    | succ j =>
      have hn : s.vw.to (1 + ((0 : Nat) : Int)) = 2 + ((0 : Nat) : Int) := h.to 0 (by omega)
      by_cases hk2 : s.key (2 + ((0 : Nat) : Int)) ≤ c.val
      · rw [hn, scn_arrive_on (by omega) hk2] at h1
        obtain ⟨m, n', y, m1, m2, m3, m4⟩ := scn_go (c := c) h (j + 1) 0 [] na 0 0 false [] (by omega) (by omega) hk2 na1.1 (by omega)
        refine ⟨1 + m, n', y, by omega, ?_, by omega, m4⟩
        rw [scnIter_add, h1]
        exact m2
      · refine stop (.inr (by rw [hn]; omega)) ?_
        unfold St.scnL
        rw [if_neg hk2]
end

/-! ### Two ranges -/
section
variable {s : St} {j : Nat} {lo mid hi l1 l2 l3 : Int}
theorem freshP_app {l m : List (Int × Int)} {k : Int} (h : m ≠ []) : freshP (l ++ m) k = freshP m k := by
  unfold freshP
  rw [List.getLast?_append]
  cases hm : m.getLast? with
  | none => exact (h (List.getLast?_eq_none_iff.1 hm)).elim
  | some p => rfl
theorem freshP_below {l : List (Int × Int)} {k mid : Int} (h : ∀ q ∈ l, q.1 ≤ mid) (hk : mid < k) : freshP l k = true := by
  unfold freshP
  cases hl : l.getLast? with
  | none => rfl
  | some p =>
    have := h p (List.mem_of_getLast? hl)
    show (p.1 != k) = true
    rw [bne_iff_ne]; omega
theorem parts_behind (h : LaidV s.vw j) (hlm : lo ≤ mid) : ∀ (k t : Nat) (l m : List (Int × Int)), t + k = j → (∀ q ∈ l, q.1 ≤ mid) → (0 < k → mid < s.key (2 + (t : Int))) →
    s.scnL ⟨4, lo, hi, l3⟩ t k (l ++ m) = l ++ s.scnL ⟨4, mid + 1, hi, l2⟩ t k m
  | 0, t, l, m, _, _, _ => rfl
  | k + 1, t, l, m, hj, hl, hk => by
    have hk1 := hk (by omega)
    unfold St.scnL
    by_cases hh : s.key (2 + (t : Int)) ≤ hi
    · rw [if_pos hh, if_pos hh]
      have e : s.judgeL ⟨4, lo, hi, l3⟩ (2 + (t : Int)) (s.peek (s.wordAt (s.carried (2 + (t : Int))))) (l ++ m) = l ++ s.judgeL ⟨4, mid + 1, hi, l2⟩ (2 + (t : Int)) (s.peek (s.wordAt (s.carried (2 + (t : Int))))) m := by
        have hf : freshP (l ++ m) (s.key (2 + (t : Int))) = freshP m (s.key (2 + (t : Int))) := by
          cases m with
          | nil => rw [List.append_nil, freshP_below hl hk1]; rfl
          | cons a m => exact freshP_app (by simp)
        unfold St.judgeL
        simp only
        rw [hf]
        by_cases hv : s.peek (s.wordAt (s.carried (2 + (t : Int)))) = 1 ∧ freshP m (s.key (2 + (t : Int))) = true
        · rw [if_pos ⟨hv.1, by omega, hh, hv.2⟩, if_pos ⟨hv.1, by omega, hh, hv.2⟩, List.append_assoc]
        · rw [if_neg fun q => hv ⟨q.1, q.2.2.2⟩, if_neg fun q => hv ⟨q.1, q.2.2.2⟩]
      rw [e]
      refine parts_behind h hlm k (t + 1) l _ (by omega) hl fun hk0 => ?_
      have := h.rise t (by omega)
      have this' : s.key (2 + (t : Int)) ≤ s.key (3 + (t : Int)) := this
      rw [show (2 + ((t + 1 : Nat) : Int)) = 3 + (t : Int) by omega]
      omega
    · rw [if_neg hh, if_neg hh]
theorem parts_all (h : LaidV s.vw j) (hlm : lo ≤ mid) (hmh : mid ≤ hi) : ∀ (k t : Nat) (l : List (Int × Int)), t + k = j → (∀ q ∈ l, q.1 ≤ mid) →
    s.scnL ⟨4, lo, hi, l3⟩ t k l = s.scnL ⟨4, lo, mid, l1⟩ t k l ++ s.scnL ⟨4, mid + 1, hi, l2⟩ t k []
  | 0, t, l, _, _ => (List.append_nil l).symm
  | k + 1, t, l, hj, hl => by
    by_cases hk : s.key (2 + (t : Int)) ≤ mid
    · have hk2 : s.key (2 + (t : Int)) ≤ hi := by omega
      unfold St.scnL
      rw [if_pos hk, if_pos hk2, if_pos hk2]
      have e1 : s.judgeL ⟨4, mid + 1, hi, l2⟩ (2 + (t : Int)) (s.peek (s.wordAt (s.carried (2 + (t : Int))))) [] = [] := by
        unfold St.judgeL
        rw [if_neg (by simp only; omega)]
      have e2 : s.judgeL ⟨4, lo, hi, l3⟩ (2 + (t : Int)) (s.peek (s.wordAt (s.carried (2 + (t : Int))))) l = s.judgeL ⟨4, lo, mid, l1⟩ (2 + (t : Int)) (s.peek (s.wordAt (s.carried (2 + (t : Int))))) l := by
        unfold St.judgeL
        simp only [hk, hk2, true_and]
      rw [e1, e2]
      refine parts_all h hlm hmh k (t + 1) _ (by omega) fun q hq => ?_
      unfold St.judgeL at hq
      split at hq
      · rcases List.mem_append.1 hq with hq | hq
        · exact hl q hq
        · rw [List.mem_singleton] at hq; subst hq; exact hk
      · exact hl q hq
    · have e := parts_behind (l3 := l3) (l2 := l2) (hi := hi) h hlm (k + 1) t l [] hj hl (fun _ => by omega)
      rw [List.append_nil] at e
      rw [e]
      congr 1
      unfold St.scnL
      rw [if_neg hk]
end
end Go.Proofs.YtccmjljlfgbicaaGreat

/- A pair of a list in memory. Plain. -/
namespace Go.Proofs.YtccmjljlfgbicaaGreat
open Go.ChangeShapes Go.WideShapes Go.ChangeAt Go.RowKit

theorem PairsIn.at_ {w : World} {N : Nat → Prop} {ao : Option Addr} {n cap : Nat} {l : List (Int × Int)} {i : Nat} {p : Int × Int} (h : PairsIn w N (.slice ao n cap) l) (hi : l[i]? = some p) :
    ∃ b o, ao = some ⟨b, o, none⟩ ∧ N b ∧ w.cell? ⟨b, o + i * 2, none⟩ = some (.int .u64 p.1) ∧ w.cell? ⟨b, o + i * 2 + 1, none⟩ = some (.int .u64 p.2) := by
  rcases h with ⟨rfl, _⟩ | ⟨b, o, c, e, _, _, h4, h5⟩
  · cases hi
  · injection e with e1 e2 e3
    obtain ⟨g1, g2⟩ := pairsV_get hi
    exact ⟨b, o, e1, h4, h5 _ _ g1, by rw [Nat.add_assoc]; exact h5 _ _ g2⟩
end Go.Proofs.YtccmjljlfgbicaaGreat

