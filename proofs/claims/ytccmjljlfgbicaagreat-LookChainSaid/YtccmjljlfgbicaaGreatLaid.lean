/- The state of a scene's world: pure. -/
import Derived.Test.YtccmjljlfgbicaaGreatScene
import Derived.Test.YtccmjljlfgbicaaGreatEnds
namespace Go.Proofs.YtccmjljlfgbicaaGreat
open Go.ChangeShapes Go.WideShapes Go.ChangeAt Go.RowKit

theorem begin_ok {s : St} (h : s.ok) (n : Int) {c : GCall} (hc : c.fits) : (s.begin n c).1.ok := by
  unfold St.begin
  rcases thrAt_cases s.thr n with ⟨i, t, rfl, hi, ht, hta⟩ | ⟨hta, _⟩
  · rw [hta]
    have hcnt := h.counts t (List.mem_of_getElem? ht)
    have ei : ((i : Int)).toNat = i := rfl
    simp only [ei]
    split; · exact h
    split; · exact h
    split
    · exact ok_thr h ht (by show t.calls ≤ t.calls + 1; omega) (Int.le_refl _) ⟨by show 0 ≤ t.calls + 1; omega, by show t.calls + 1 ≤ _; omega, hcnt.2.2⟩
    · rename_i h1 h2 h3
      have h4 := ok_thr (t' := { t with calls := t.calls + 1, inserts := if c.kind = 1 then t.inserts + 1 else t.inserts }) h ht (by show t.calls ≤ t.calls + 1; omega) (Int.le_refl _) ⟨by show 0 ≤ t.calls + 1; omega, by show t.calls + 1 ≤ _; omega, by show 0 ≤ (if c.kind = 1 then t.inserts + 1 else t.inserts); split <;> omega, by show (if c.kind = 1 then t.inserts + 1 else t.inserts) ≤ _; split <;> omega, hcnt.2.2.2.2⟩
      exact ok_ops h4 (i := i) (t := { t with calls := t.calls + 1, inserts := if c.kind = 1 then t.inserts + 1 else t.inserts }) (by simp [hi]) hc (by show i * s.c.calls ≤ i * s.c.calls + t.calls; omega) (by show i * s.c.calls + t.calls < i * s.c.calls + (t.calls + 1); omega)
  · rw [hta]; exact h
theorem make_ok {s : St} (h : s.ok) (n op : Int) : (s.make n op).1.ok := by
  unfold St.make
  rcases thrAt_cases s.thr n with ⟨i, t, rfl, hi, ht, hta⟩ | ⟨hta, _⟩
  · rw [hta]
    have hcnt := h.counts t (List.mem_of_getElem? ht)
    have ei : ((i : Int)).toNat = i := rfl
    simp only [ei]
    split; · exact h
    split; · exact h
    have h4 := ok_thr (t' := { t with made := t.made + 1 }) h ht (Int.le_refl _) (by show t.made ≤ t.made + 1; omega) ⟨hcnt.1, hcnt.2.1, hcnt.2.2.1, hcnt.2.2.2.1, by show 0 ≤ t.made + 1; omega, by show t.made + 1 ≤ _; omega⟩
    exact ok_nodes h4 (i := i) (t := { t with made := t.made + 1 }) (by simp [hi]) (by show 1 + s.c.buckets + i * (2 * s.c.calls) ≤ 1 + s.c.buckets + i * (2 * s.c.calls) + t.made; omega) (by show 1 + s.c.buckets + i * (2 * s.c.calls) + t.made < 1 + s.c.buckets + i * (2 * s.c.calls) + (t.made + 1); omega)
  · rw [hta]; exact h
/-- To write down is to turn no cell, and no node. -/
theorem begin_same (s : St) (n : Int) (c : GCall) : (s.begin n c).1.c = s.c ∧ (s.begin n c).1.words = s.words ∧ (s.begin n c).1.nodes = s.nodes ∧ (s.begin n c).1.steps = s.steps := by
  unfold St.begin
  split
  · exact ⟨rfl, rfl, rfl, rfl⟩
  · repeat' split
    all_goals exact ⟨rfl, rfl, rfl, rfl⟩
theorem make_same (s : St) (n op : Int) : (s.make n op).1.c = s.c ∧ (s.make n op).1.words = s.words ∧ (s.make n op).1.ops = s.ops ∧ (s.make n op).1.steps = s.steps := by
  unfold St.make
  split
  · exact ⟨rfl, rfl, rfl, rfl⟩
  · repeat' split
    all_goals exact ⟨rfl, rfl, rfl, rfl⟩

theorem peek_swap_other {s : St} {p old x q : Int} (hq : q ≠ p) : (s.swap p old x).peek q = s.peek q := by
  cases h : s.swaps p old with
  | true => rw [peek_swap h, if_neg hq]
  | false =>
    unfold St.swaps at h
    unfold St.swap St.peek swapL
    rw [h]; rfl
theorem peek_store {s : St} {p x : Int} (h0 : 0 ≤ p) (h1 : p < (s.words.length : Int)) (q : Int) : (s.store p x).peek q = if q = p then x else s.peek q := by
  have hin : inL s.words p = true := by unfold inL; simpa using ⟨h0, h1⟩
  unfold St.store St.peek peekL storeL
  rw [hin]
  simp only [if_true, List.length_set]
  by_cases hq : q = p
  · subst hq
    rw [if_pos ⟨h0, h1⟩, if_pos rfl]
    rw [List.getD_eq_getElem?_getD, List.getElem?_set_self (by omega)]; rfl
  · rw [if_neg hq]
    by_cases hr : 0 ≤ q ∧ q < (s.words.length : Int)
    · rw [if_pos hr, if_pos hr, List.getD_eq_getElem?_getD, List.getElem?_set_ne (by omega), List.getD_eq_getElem?_getD]
    · rw [if_neg hr, if_neg hr]

/-! ### To lay a scene -/
/-- The operation of an item: the one before, or a new one. -/
def St.layOp (s : St) (op : Int) (i : GItem) : St × Int :=
  if i.again then (s, op)
  else ((s.begin 0 ⟨1, i.key, i.val, 0⟩).1.swap ((s.begin 0 ⟨1, i.key, i.val, 0⟩).1.wordAt (s.begin 0 ⟨1, i.key, i.val, 0⟩).2.1) 0 i.word, (s.begin 0 ⟨1, i.key, i.val, 0⟩).2.1)
/-- The node of an item, behind a place. -/
def St.layNode (s : St) (at_ op : Int) (mark : Bool) : St × Int :=
  (((s.make 0 op).1.store ((s.make 0 op).1.nextAt at_) (refOf (s.make 0 op).2.1 ((s.make 0 op).1.peek at_ % 2 == 1))).store ((s.make 0 op).1.nextAt (s.make 0 op).2.1) (refOf 0 mark), (s.make 0 op).2.1)
/-- An item: the state, the place behind which the next one comes, the last operation. -/
def layItem (p : St × Int × Int) (i : GItem) : St × Int × Int :=
  (((p.1.layOp p.2.2 i).1.layNode p.2.1 (p.1.layOp p.2.2 i).2 i.mark).1, ((p.1.layOp p.2.2 i).1.layNode p.2.1 (p.1.layOp p.2.2 i).2 i.mark).2, (p.1.layOp p.2.2 i).2)
def St.layItems (s : St) (l : List GItem) : St × Int × Int := l.foldl layItem (s, 1, 0)
def St.layCalls (s : St) (l : List GCall) : St := l.foldl (fun s c => (s.begin 2 c).1) s
def Scene.lay (x : Scene) : St := ((St.new x.conf).layItems x.sorted).1.layCalls x.calls

theorem conf_may {f : Int} (h : 0 ≤ f ∧ f ≤ 255) : (⟨3, 1, 16, f, 16⟩ : Conf).may = true := by
  unfold Conf.may
  have e : inB f 0 65536 = true := inB_iff.2 (by omega)
  simp only [e]
  decide
theorem conf_nodes {f : Int} (h : 0 ≤ f ∧ f ≤ 255) : (⟨3, 1, 16, f, 16⟩ : Conf).nodes = 98 := by unfold Conf.nodes Conf.ops; rw [conf_may h]; rfl
theorem conf_ops {f : Int} (h : 0 ≤ f ∧ f ≤ 255) : (⟨3, 1, 16, f, 16⟩ : Conf).ops = 48 := by unfold Conf.ops; rw [conf_may h]; rfl

/-- So many items are laid, of so many operations. -/
structure LaidTo (f : Int) (s : St) (at_ op : Int) (j : Nat) (o : Int) : Prop where
  ok : s.ok
  c : s.c = ⟨3, 1, 16, f, 16⟩
  place : at_ = 1 + j
  thr : s.thr = [⟨o, o, j⟩, ⟨0, 0, 0⟩, ⟨0, 0, 0⟩]
  few : 0 ≤ o ∧ o ≤ j + 1
  op : 0 < j → 0 ≤ op ∧ op < o
  begun : ∀ q, 0 ≤ q → q < o → (s.callOf q).isSome = true
  link : ∀ t : Nat, t < j → s.peek (1 + t) / 2 = 2 + t
  last : s.peek (1 + j) / 2 = 0
  head : s.peek 1 % 2 = 0
  carried : ∀ t : Nat, t < j → 0 ≤ s.carried (2 + t) ∧ s.carried (2 + t) < o

theorem laid_new {f : Int} (hf : 0 ≤ f ∧ f ≤ 255) : LaidTo f (St.new ⟨3, 1, 16, f, 16⟩) 1 0 0 0 := by
  have hp : ∀ q, (St.new ⟨3, 1, 16, f, 16⟩).peek q = 0 := by
    intro q
    unfold St.new St.peek peekL
    split
    · rw [List.getD_eq_getElem?_getD]
      simp only [List.getElem?_replicate]
      split <;> rfl
    · rfl
  exact ⟨ok_new (conf_may hf), rfl, rfl, rfl, by omega, by omega, by intro q h1 h2; omega, by intro t ht; omega, by rw [hp]; rfl, by rw [hp]; rfl, by intro t ht; omega⟩

theorem laid_op {f : Int} {s : St} {at_ op : Int} {j : Nat} {o : Int} (hf : 0 ≤ f ∧ f ≤ 255) (h : LaidTo f s at_ op j o) (hj : j < 12) (ho : o ≤ j) {i : GItem} (hi : i.fits) (ha : i.again = false) :
    LaidTo f (s.layOp op i).1 at_ (s.layOp op i).2 j (o + 1) ∧ 0 ≤ (s.layOp op i).2 ∧ (s.layOp op i).2 < o + 1 := by
  have hfew := h.few
  have hcf : (⟨1, i.key, i.val, 0⟩ : GCall).fits := ⟨hi.1.1, hi.1.2, hi.2.1.1, hi.2.1.2⟩
  have hb : s.begin 0 ⟨1, i.key, i.val, 0⟩ = ({ s with thr := [⟨o + 1, o + 1, j⟩, ⟨0, 0, 0⟩, ⟨0, 0, 0⟩], ops := s.ops ++ [(o, ⟨1, i.key, i.val, 0⟩)] }, o, 0) := by
    unfold St.begin
    rw [h.thr, h.c]
    simp only [thrAt]
    rw [if_pos (by decide)]
    simp only [Int.toNat_zero, List.getElem?_cons_zero, List.set_cons_zero]
    rw [if_neg (by omega), if_neg (by omega), if_neg (by omega)]
    simp
  have hbok := begin_ok h.ok 0 hcf
  unfold St.layOp
  rw [if_neg (by rw [ha]; decide)]
  rw [hb] at hbok ⊢
  simp only at hbok ⊢
  have hw : St.wordAt { s with thr := [⟨o + 1, o + 1, j⟩, ⟨0, 0, 0⟩, ⟨0, 0, 0⟩], ops := s.ops ++ [(o, ⟨1, i.key, i.val, 0⟩)] } o = 98 + o := by
    unfold St.wordAt
    show atOr o s.c.ops (s.c.nodes + o) = _
    rw [h.c, conf_nodes hf, conf_ops hf]
    exact atOr_in ⟨by omega, by omega⟩
  rw [hw]
  refine ⟨?_, hfew.1, by omega⟩
  have hpk : ∀ q, q < 98 → (St.swap { s with thr := [⟨o + 1, o + 1, j⟩, ⟨0, 0, 0⟩, ⟨0, 0, 0⟩], ops := s.ops ++ [(o, ⟨1, i.key, i.val, 0⟩)] } (98 + o) 0 i.word).peek q = s.peek q := by
    intro q hq
    rw [peek_swap_other (by omega)]; rfl
  refine ⟨ok_swap hbok _ _ hi.2.2, h.c, h.place, rfl, by omega, fun _ => by omega, ?_, ?_, ?_, ?_, ?_⟩
  · intro q q0 q1
    show (look1 (s.ops ++ [(o, (⟨1, i.key, i.val, 0⟩ : GCall))]) q).isSome = true
    rw [look1_append]
    by_cases hq : q < o
    · have := h.begun q q0 hq
      unfold St.callOf at this
      cases hl : look1 s.ops q with
      | some c => rfl
      | none => rw [hl] at this; cases this
    · rw [if_pos (by show o = q; omega)]
      cases look1 s.ops q <;> rfl
  · intro t ht; rw [hpk _ (by omega)]; exact h.link t ht
  · rw [hpk _ (by omega)]; exact h.last
  · rw [hpk _ (by omega)]; exact h.head
  · intro t ht
    have := h.carried t ht
    have e : (St.swap { s with thr := [⟨o + 1, o + 1, j⟩, ⟨0, 0, 0⟩, ⟨0, 0, 0⟩], ops := s.ops ++ [(o, ⟨1, i.key, i.val, 0⟩)] } (98 + o) 0 i.word).carried (2 + t) = s.carried (2 + t) := rfl
    rw [e]; omega

theorem laid_node {f : Int} {s : St} {at_ op : Int} {j : Nat} {o : Int} (hf : 0 ≤ f ∧ f ≤ 255) (h : LaidTo f s at_ op j o) (hj : j < 12) (hop : 0 ≤ op ∧ op < o) (mark : Bool) :
    LaidTo f (s.layNode at_ op mark).1 (s.layNode at_ op mark).2 op (j + 1) o := by
  have hfew := h.few
  have hmk : s.make 0 op = ({ s with thr := [⟨o, o, j + 1⟩, ⟨0, 0, 0⟩, ⟨0, 0, 0⟩], nodes := s.nodes ++ [((2 + j : Int), op)] }, (2 + j : Int), 0) := by
    have hsome := h.begun op hop.1 hop.2
    unfold St.make
    rw [h.thr]
    simp only [thrAt]
    rw [if_pos (by decide)]
    simp only [Int.toNat_zero, List.getElem?_cons_zero, List.set_cons_zero]
    rw [if_neg (by
      intro e
      rw [Option.isNone_iff_eq_none] at e
      rw [e] at hsome; cases hsome), if_neg (by rw [h.c]; simp only []; omega)]
    rw [h.c]
    simp
  have hmok := make_ok h.ok 0 op
  have hms := make_same s 0 op
  have hlen : (s.words.length : Int) = 149 := by
    have := h.ok.len
    rw [h.c, conf_nodes hf, conf_ops hf] at this
    exact this
  unfold St.layNode
  rw [hmk] at hmok ⊢
  simp only at hmok ⊢
  generalize hs1 : ({ s with thr := [⟨o, o, j + 1⟩, ⟨0, 0, 0⟩, ⟨0, 0, 0⟩], nodes := s.nodes ++ [((2 + j : Int), op)] } : St) = s1 at *
  have hc1 : s1.c = ⟨3, 1, 16, f, 16⟩ := by rw [← hs1]; exact h.c
  have hn1 : s1.nextAt at_ = 1 + j := by
    unfold St.nextAt; rw [hc1, conf_nodes hf, h.place]; exact atOr_in (by omega)
  have hn2 : s1.nextAt (2 + j) = 2 + j := by
    unfold St.nextAt; rw [hc1, conf_nodes hf]; exact atOr_in (by omega)
  have hw1 : s1.words = s.words := by rw [← hs1]
  have hp1 : ∀ q, s1.peek q = s.peek q := by intro q; rw [← hs1]; rfl
  rw [hn1, hn2, hp1, refOf_in (n := 2 + j) (by omega), refOf_in (n := 0) (by omega)]
  have hb2 := b2i_range (s.peek at_ % 2 == 1)
  have hb3 := b2i_range mark
  have hlen1 : ((s1.store (1 + j) (2 * (2 + j) + b2i (s.peek at_ % 2 == 1))).words.length : Int) = 149 := by
    unfold St.store storeL
    dsimp only
    split
    · rw [List.length_set, hw1]; exact hlen
    · rw [hw1]; exact hlen
  have hpk : ∀ q, ((s1.store (1 + j) (2 * (2 + j) + b2i (s.peek at_ % 2 == 1))).store (2 + j) (2 * 0 + b2i mark)).peek q = if q = 2 + j then 2 * 0 + b2i mark else if q = 1 + j then 2 * (2 + j) + b2i (s.peek at_ % 2 == 1) else s.peek q := by
    intro q
    rw [peek_store (by omega) (by omega), peek_store (by omega) (by rw [hw1]; omega), hp1]
  refine ⟨ok_store (ok_store hmok _ (by omega)) _ (by omega), hc1, by omega, by rw [← hs1]; rfl, by omega, fun _ => hop, ?_, ?_, ?_, ?_, ?_⟩
  · intro q q0 q1
    have := h.begun q q0 q1
    rw [← hs1]; exact this
  · intro t ht
    rw [hpk, if_neg (by omega)]
    by_cases e : t = j
    · subst e; rw [if_pos rfl]; omega
    · rw [if_neg (by omega)]; exact h.link t (by omega)
  · rw [hpk, if_pos (by omega)]; omega
  · rw [hpk, if_neg (by omega)]
    by_cases e : j = 0
    · subst e
      rw [if_pos (by omega)]
      have : (s.peek at_ % 2 == 1) = false := by
        rw [h.place]
        have := h.head
        simp only [Int.natCast_zero, Int.add_zero, this]
        rfl
      rw [this]; simp [b2i]
    · rw [if_neg (by omega)]; exact h.head
  · intro t ht
    have hcar : ∀ q, ((s1.store (1 + j) (2 * (2 + j) + b2i (s.peek at_ % 2 == 1))).store (2 + j) (2 * 0 + b2i mark)).carried q = (look1 (s.nodes ++ [((2 + j : Int), op)]) q).getD (-1) := by
      intro q; rw [← hs1]; rfl
    rw [hcar, look1_append]
    by_cases e : t = j
    · subst e
      rw [if_pos rfl]
      have hfr : look1 s.nodes (2 + t) = none := by
        have := fresh_node (i := 0) (t := ⟨o, o, t⟩) h.ok (by rw [h.thr]; rfl) (by rw [h.c]; show (t : Int) < 2 * 16; omega)
        rw [h.c] at this
        simpa using this
      rw [hfr]; exact hop
    · have := h.carried t (by omega)
      unfold St.carried at this
      cases hl : look1 s.nodes (2 + t) with
      | some v => rw [hl] at this; exact this
      | none => rw [hl] at this; simp at this

theorem laid_item {f : Int} {s : St} {at_ op : Int} {j : Nat} {o : Int} (hf : 0 ≤ f ∧ f ≤ 255) (h : LaidTo f s at_ op j o) (hj : j < 12) (ho : o ≤ j) {i : GItem} (hi : i.fits) (ha : j = 0 → i.again = false) :
    ∃ o' : Int, o' ≤ j + 1 ∧ LaidTo f (layItem (s, at_, op) i).1 (layItem (s, at_, op) i).2.1 (layItem (s, at_, op) i).2.2 (j + 1) o' := by
  by_cases hag : i.again = true
  · have e : s.layOp op i = (s, op) := by unfold St.layOp; rw [if_pos hag]
    have hj0 : 0 < j := by
      rcases Nat.eq_zero_or_pos j with h0 | h0
      · rw [ha h0] at hag; cases hag
      · exact h0
    refine ⟨o, by omega, ?_⟩
    unfold layItem
    simp only [e]
    exact laid_node hf h hj (h.op hj0) i.mark
  · obtain ⟨h1, h2, h3⟩ := laid_op hf h hj ho hi (by simpa using hag)
    exact ⟨o + 1, by omega, laid_node hf h1 hj ⟨h2, h3⟩ i.mark⟩

theorem laid_items {f : Int} (hf : 0 ≤ f ∧ f ≤ 255) (l : List GItem) : ∀ {s : St} {at_ op : Int} {j : Nat} {o : Int}, LaidTo f s at_ op j o → o ≤ j → j + l.length ≤ 12 → (∀ i ∈ l, i.fits) → (j = 0 → ∀ i, l[0]? = some i → i.again = false) →
    ∃ o', LaidTo f (l.foldl layItem (s, at_, op)).1 (l.foldl layItem (s, at_, op)).2.1 (l.foldl layItem (s, at_, op)).2.2 (j + l.length) o' := by
  induction l with
  | nil => intro s at_ op j o h _ _ _ _; exact ⟨o, h⟩
  | cons i l ih =>
    intro s at_ op j o h ho hl hfit ha
    simp only [List.length_cons] at hl
    obtain ⟨o1, ho1, h1⟩ := laid_item hf h (by omega) ho (hfit i (.head _)) (fun e => ha e i rfl)
    obtain ⟨o2, h2⟩ := ih h1 (by omega) (by omega) (fun k hk => hfit k (.tail _ hk)) (fun e => by omega)
    refine ⟨o2, ?_⟩
    rw [List.foldl_cons, List.length_cons, show j + (l.length + 1) = j + 1 + l.length by omega]
    exact h2

/-- The first item is of its own operation. -/
theorem sorted_first (x : Scene) (i : GItem) (h : x.sorted[0]? = some i) : i.again = false := by
  unfold Scene.sorted at h
  rw [clearTo_get] at h
  cases hp : (placed x.items)[0]? with
  | none => rw [hp] at h; cases h
  | some y =>
    rw [hp] at h
    have hlen : 0 < (placed x.items).length := by
      rcases Nat.eq_zero_or_pos (placed x.items).length with e | e
      · rw [List.getElem?_eq_none (by omega)] at hp; cases hp
      · exact e
    simp only [Option.map_some, Option.some.injEq] at h
    rw [if_pos ⟨hlen, by unfold lone; simp⟩] at h
    rw [← h]
theorem insertItem_mem {l : List GItem} {i k : GItem} (h : k ∈ insertItem l i) : k ∈ l ∨ k = i := by
  unfold insertItem at h
  simp only [List.mem_append, List.mem_singleton] at h
  rcases h with (h | h) | h
  · exact .inl (List.mem_of_mem_take h)
  · exact .inr h
  · exact .inl (List.mem_of_mem_drop h)
theorem placed_mem {l : List GItem} {k : GItem} (h : k ∈ placed l) : k ∈ l := by
  have : ∀ (m acc : List GItem), k ∈ m.foldl insertItem acc → k ∈ acc ∨ k ∈ m := by
    intro m
    induction m with
    | nil => intro acc h; exact .inl h
    | cons i m ih =>
      intro acc h
      rcases ih _ h with h | h
      · rcases insertItem_mem h with h | h
        · exact .inl h
        · exact .inr (h ▸ .head _)
      · exact .inr (.tail _ h)
  rcases this l [] h with h | h
  · cases h
  · exact h
theorem sorted_fits {x : Scene} (h : ∀ i ∈ x.items, i.fits) : ∀ i ∈ x.sorted, i.fits := by
  intro i hi
  obtain ⟨m, hm⟩ := List.getElem?_of_mem hi
  unfold Scene.sorted at hm
  rw [clearTo_get] at hm
  cases hp : (placed x.items)[m]? with
  | none => rw [hp] at hm; cases hm
  | some y =>
    rw [hp] at hm
    simp only [Option.map_some, Option.some.injEq] at hm
    have := h y (placed_mem (List.mem_of_getElem? hp))
    rw [← hm]
    split <;> exact this
theorem sorted_len (x : Scene) : x.sorted.length = x.items.length := by unfold Scene.sorted; rw [clearTo_len, placed_len]

theorem layCalls_same (l : List GCall) : ∀ s : St, (s.layCalls l).c = s.c ∧ (s.layCalls l).words = s.words ∧ (s.layCalls l).nodes = s.nodes ∧ (s.layCalls l).steps = s.steps := by
  induction l with
  | nil => intro s; exact ⟨rfl, rfl, rfl, rfl⟩
  | cons c l ih =>
    intro s
    obtain ⟨h1, h2, h3, h4⟩ := ih (s.begin 2 c).1
    obtain ⟨g1, g2, g3, g4⟩ := begin_same s 2 c
    exact ⟨h1.trans g1, h2.trans g2, h3.trans g3, h4.trans g4⟩
theorem layCalls_ok (l : List GCall) : ∀ s : St, s.ok → (∀ c ∈ l, c.fits) → (s.layCalls l).ok := by
  induction l with
  | nil => intro s h _; exact h
  | cons c l ih => intro s h hf; exact ih _ (begin_ok h 2 (hf c (.head _))) fun d hd => hf d (.tail _ hd)

/-- What is given fits. -/
structure Scene.fits (x : Scene) : Prop where
  fuel : 0 ≤ x.fuel ∧ x.fuel ≤ 255
  items : ∀ i ∈ x.items, i.fits
  calls : ∀ c ∈ x.calls, c.fits

/-- The nodes of a scene's world, so many from some on. -/
def nodesFrom (t n : Nat) : List Int := (List.range' (2 + t) n).map Int.ofNat
theorem nodesFrom_zero (t : Nat) : nodesFrom t 0 = [] := rfl
theorem nodesFrom_succ (t n : Nat) : nodesFrom t (n + 1) = (2 + t : Int) :: nodesFrom (t + 1) n := by
  unfold nodesFrom
  rw [List.range'_succ, List.map_cons]
  have : Int.ofNat (2 + t) = 2 + (t : Int) := by simp
  rw [this]; rfl
theorem nodesFrom_mem {t n : Nat} {a : Int} (h : a ∈ nodesFrom t n) : ∃ k : Nat, t ≤ k ∧ k < t + n ∧ a = 2 + k := by
  unfold nodesFrom at h
  rw [List.mem_map] at h
  obtain ⟨q, hq, rfl⟩ := h
  rw [List.mem_range'_1] at hq
  exact ⟨q - 2, by omega, by omega, by show (q : Int) = _; omega⟩
theorem nodesFrom_len (t n : Nat) : (nodesFrom t n).length = n := by simp [nodesFrom]
theorem nodesFrom_nodup (n : Nat) : ∀ t : Nat, ((1 + t : Int) :: nodesFrom t n).Nodup := by
  induction n with
  | zero => intro t; simp [nodesFrom_zero]
  | succ n ih =>
    intro t
    have := ih (t + 1)
    rw [nodesFrom_succ]
    refine List.nodup_cons.2 ⟨?_, ?_⟩
    · intro h
      rw [← nodesFrom_succ] at h
      obtain ⟨k, h1, _, h3⟩ := nodesFrom_mem h
      omega
    · rw [show (2 + t : Int) = 1 + ((t + 1 : Nat) : Int) by omega]; exact this
theorem path_from {s : St} {j : Nat} (hl : ∀ t : Nat, t < j → s.peek (1 + t) / 2 = 2 + t) (h0 : s.peek (1 + j) / 2 = 0) : ∀ (n t : Nat), t + n = j → Path s (1 + (t : Int)) (nodesFrom t n) := by
  intro n
  induction n with
  | zero => intro t ht; obtain rfl : t = j := by omega
            exact h0
  | succ n ih =>
    intro t ht
    rw [nodesFrom_succ]
    refine ⟨hl t (by omega), by omega, ?_⟩
    have := ih (t + 1) (by omega)
    rw [show (2 + t : Int) = 1 + ((t + 1 : Nat) : Int) by omega]; exact this

/-- A scene's world: a path of as many nodes as there are items. -/
theorem lay_path {x : Scene} (hx : x.fits) (hlen : x.items.length ≤ 12) : x.lay.ok ∧ x.lay.c = x.conf ∧ Path x.lay 1 (nodesFrom 0 x.items.length) ∧ x.lay.peek 1 % 2 = 0 ∧ (1 :: nodesFrom 0 x.items.length).Nodup ∧ ∀ a ∈ nodesFrom 0 x.items.length, Good x.lay a := by
  obtain ⟨o, h⟩ := laid_items hx.fuel x.sorted (laid_new hx.fuel) (by omega) (by rw [sorted_len]; omega) (sorted_fits hx.items) (fun _ i hi => sorted_first x i hi)
  rw [sorted_len, Nat.zero_add] at h
  obtain ⟨c1, c2, c3, c4⟩ := layCalls_same x.calls ((St.new x.conf).layItems x.sorted).1
  have hpk : ∀ q, x.lay.peek q = ((St.new x.conf).layItems x.sorted).1.peek q := by
    intro q; unfold St.peek Scene.lay; rw [c2]
  have hcar : ∀ q, x.lay.carried q = ((St.new x.conf).layItems x.sorted).1.carried q := by
    intro q; unfold St.carried Scene.lay; rw [c3]
  have hc : x.lay.c = x.conf := c1.trans h.c
  have hlink : ∀ t : Nat, t < x.items.length → x.lay.peek (1 + t) / 2 = 2 + t := fun t ht => by rw [hpk]; exact h.link t ht
  have hlast : x.lay.peek (1 + x.items.length) / 2 = 0 := by rw [hpk]; exact h.last
  refine ⟨layCalls_ok _ _ h.ok hx.calls, hc, path_from hlink hlast _ 0 (by omega), by rw [hpk]; exact h.head, nodesFrom_nodup _ 0, ?_⟩
  intro a ha
  obtain ⟨k, _, hk, rfl⟩ := nodesFrom_mem ha
  have := h.carried k (by omega)
  have hfew := h.few
  unfold Good
  rw [hc, hcar]
  show _ ∧ _ < (⟨3, 1, 16, x.fuel, 16⟩ : Conf).nodes ∧ _ ∧ _ < (⟨3, 1, 16, x.fuel, 16⟩ : Conf).ops
  rw [conf_nodes hx.fuel, conf_ops hx.fuel]
  have h1 : ((St.new x.conf).layItems x.sorted).1 = (List.foldl layItem (St.new ⟨3, 1, 16, x.fuel, 16⟩, 1, 0) x.sorted).1 := rfl
  rw [h1]
  omega

end Go.Proofs.YtccmjljlfgbicaaGreat
