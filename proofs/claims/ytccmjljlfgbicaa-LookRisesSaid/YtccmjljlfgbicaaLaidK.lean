/- A laid scene: which calls its nodes carry, which operations have nodes. Plain. -/
import Derived.Test.YtccmjljlfgbicaaLaid
import Derived.Test.YtccmjljlfgbicaaView
import Derived.Test.YtccmjljlfgbicaaSnd
import Derived.Test.YtccmjljlfgbicaaEnds
namespace Go.Proofs.Ytccmjljlfgbicaa
open Go.ChangeShapes Go.WideShapes Go.ChangeAt Go.RowKit

/-- What the items that are laid are: l, behind one another. -/
structure LaidK (s : St) (op : Int) (o : Int) (l : List GItem) : Prop where
  keys : ∀ (t : Nat) (it : GItem), l[t]? = some it → ∃ v, s.callOf (s.carried (2 + t)) = some ⟨1, it.key, v, 0⟩
  cur : ∀ it : GItem, l.getLast? = some it → ∃ v, s.callOf op = some ⟨1, it.key, v, 0⟩
  held : ∀ q, 0 ≤ q → q < o → ∃ t : Nat, t < l.length ∧ s.carried (2 + t) = q
  none_ : ∀ q, o ≤ q → s.callOf q = none
  zero : ∀ q, o ≤ q → s.peek (98 + q) = 0

theorem laidk_new (f : Int) : LaidK (St.new ⟨3, 1, 16, f, 16⟩) 0 0 [] := by
  refine ⟨fun t it h => by simp at h, fun it h => by simp at h, fun q a b => by omega, fun q _ => rfl, fun q _ => ?_⟩
  unfold St.new St.peek peekL
  split
  · rw [List.getD_eq_getElem?_getD]
    simp only [List.getElem?_replicate]
    split <;> rfl
  · rfl
section
variable {f : Int} {s : St} {at_ op o : Int} {l : List GItem}
theorem begin_laid (h : LaidTo f s at_ op l.length o) (hj : l.length < 12) (ho : o ≤ l.length) (i : GItem) :
    s.begin 0 ⟨1, i.key, i.val, 0⟩ = ({ s with thr := [⟨o + 1, o + 1, l.length⟩, ⟨0, 0, 0⟩, ⟨0, 0, 0⟩], ops := s.ops ++ [(o, ⟨1, i.key, i.val, 0⟩)] }, o, 0) := by
  unfold St.begin
  rw [h.thr, h.c]
  simp only [thrAt]
  rw [if_pos (by decide)]
  simp only [Int.toNat_zero, List.getElem?_cons_zero, List.set_cons_zero]
  rw [if_neg (by omega), if_neg (by omega), if_neg (by omega)]
  simp
/-- A new operation: told in the book, its word laid, nothing else. -/
theorem layOp_form (hf : 0 ≤ f ∧ f ≤ 255) (h : LaidTo f s at_ op l.length o) (hj : l.length < 12) (ho : o ≤ l.length) (i : GItem) (ha : i.again = false) :
    (s.layOp op i).2 = o ∧ (s.layOp op i).1.ops = s.ops ++ [(o, ⟨1, i.key, i.val, 0⟩)] ∧ (s.layOp op i).1.nodes = s.nodes ∧ ∀ q, q ≠ 98 + o → (s.layOp op i).1.peek q = s.peek q := by
  have hfew := h.few
  have hb := begin_laid h hj ho i
  unfold St.layOp
  rw [if_neg (by rw [ha]; decide), hb]
  simp only
  have hw : St.wordAt { s with thr := [⟨o + 1, o + 1, l.length⟩, ⟨0, 0, 0⟩, ⟨0, 0, 0⟩], ops := s.ops ++ [(o, ⟨1, i.key, i.val, 0⟩)] } o = 98 + o := by
    unfold St.wordAt
    show atOr o s.c.ops (s.c.nodes + o) = _
    rw [h.c, conf_nodes hf, conf_ops hf]
    exact atOr_in ⟨by omega, by omega⟩
  rw [hw]
  refine ⟨trivial, rfl, rfl, fun q hq => ?_⟩
  rw [peek_swap_other hq]; rfl
/-- A new node: told in the book, two references laid. -/
theorem layNode_form (hf : 0 ≤ f ∧ f ≤ 255) (h : LaidTo f s at_ op l.length o) (hj : l.length < 12) (hop : 0 ≤ op ∧ op < o) (mark : Bool) :
    (s.layNode at_ op mark).1.ops = s.ops ∧ (s.layNode at_ op mark).1.nodes = s.nodes ++ [((2 + l.length : Int), op)] ∧ ∀ q, 98 ≤ q → (s.layNode at_ op mark).1.peek q = s.peek q := by
  have hfew := h.few
  have hmk : s.make 0 op = ({ s with thr := [⟨o, o, l.length + 1⟩, ⟨0, 0, 0⟩, ⟨0, 0, 0⟩], nodes := s.nodes ++ [((2 + l.length : Int), op)] }, (2 + l.length : Int), 0) := by
    have hsome := h.begun op hop.1 hop.2
    unfold St.make
    rw [h.thr]
    simp only [thrAt]
    rw [if_pos (by decide)]
    simp only [Int.toNat_zero, List.getElem?_cons_zero, List.set_cons_zero]
    rw [if_neg (by
      intro e
      rw [Option.isNone_iff_eq_none] at e
      rw [e] at hsome; cases hsome), if_neg (by rw [h.c]; simp only []; omega)]
    rw [h.c]
    simp
  have hlen : (s.words.length : Int) = 149 := by
    have := h.ok.len
    rw [h.c, conf_nodes hf, conf_ops hf] at this
    exact this
  unfold St.layNode
  rw [hmk]
  simp only
  generalize hs1 : ({ s with thr := [⟨o, o, l.length + 1⟩, ⟨0, 0, 0⟩, ⟨0, 0, 0⟩], nodes := s.nodes ++ [((2 + l.length : Int), op)] } : St) = s1 at *
  have hc1 : s1.c = ⟨3, 1, 16, f, 16⟩ := by rw [← hs1]; exact h.c
  have hn1 : s1.nextAt at_ = 1 + l.length := by
    unfold St.nextAt; rw [hc1, conf_nodes hf, h.place]; exact atOr_in (by omega)
  have hn2 : s1.nextAt (2 + l.length) = 2 + l.length := by
    unfold St.nextAt; rw [hc1, conf_nodes hf]; exact atOr_in (by omega)
  have hw1 : s1.words = s.words := by rw [← hs1]
  have hp1 : ∀ q, s1.peek q = s.peek q := by intro q; rw [← hs1]; rfl
  refine ⟨by rw [← hs1]; rfl, by rw [← hs1]; rfl, fun q hq => ?_⟩
  rw [hn1, hn2]
  have hlen1 : ∀ z, ((s1.store (1 + l.length) z).words.length : Int) = 149 := by
    intro z
    unfold St.store storeL
    dsimp only
    split
    · rw [List.length_set, hw1]; exact hlen
    · rw [hw1]; exact hlen
  rw [peek_store (by omega) (by rw [hlen1]; omega), if_neg (by omega), peek_store (by omega) (by rw [hw1]; omega), if_neg (by omega), hp1]
theorem laidk_node (hf : 0 ≤ f ∧ f ≤ 255) (h : LaidTo f s at_ op l.length o) (hj : l.length < 12) (hop : 0 ≤ op ∧ op < o) (i : GItem) (mark : Bool)
    (hk : ∀ (t : Nat) (it : GItem), l[t]? = some it → ∃ v, s.callOf (s.carried (2 + t)) = some ⟨1, it.key, v, 0⟩) (hcur : ∃ v, s.callOf op = some ⟨1, i.key, v, 0⟩)
    (hheld : ∀ q, 0 ≤ q → q < o → q = op ∨ ∃ t : Nat, t < l.length ∧ s.carried (2 + t) = q) (hnone : ∀ q, o ≤ q → s.callOf q = none) (hz : ∀ q, o ≤ q → s.peek (98 + q) = 0) :
    LaidK (s.layNode at_ op mark).1 op o (l ++ [i]) := by
  obtain ⟨e1, e2, e3⟩ := layNode_form hf h hj hop mark
  have hfew := h.few
  have hcall : ∀ q, (s.layNode at_ op mark).1.callOf q = s.callOf q := fun q => by unfold St.callOf; rw [e1]
  have hfr : look1 s.nodes (2 + l.length) = none := by
    have := fresh_node (i := 0) (t := ⟨o, o, l.length⟩) h.ok (by rw [h.thr]; rfl) (by rw [h.c]; show (l.length : Int) < 2 * 16; omega)
    rw [h.c] at this
    simpa using this
  have hcar : ∀ t : Nat, t < l.length → (s.layNode at_ op mark).1.carried (2 + t) = s.carried (2 + t) := by
    intro t ht
    unfold St.carried
    rw [e2, look1_append, if_neg (by show ¬ (2 + (l.length : Int)) = 2 + t; omega), Option.or_none]
  have hnew : (s.layNode at_ op mark).1.carried (2 + l.length) = op := by
    unfold St.carried
    rw [e2, look1_append, hfr, if_pos rfl]; rfl
  refine ⟨fun t it ht => ?_, fun it hit => ?_, fun q q0 q1 => ?_, fun q hq => by rw [hcall]; exact hnone q hq, fun q hq => ?_⟩
  · by_cases hlt : t < l.length
    · rw [List.getElem?_append_left hlt] at ht
      rw [hcar t hlt, hcall]; exact hk t it ht
    · have e : t = l.length := by
        have := (List.getElem?_eq_some_iff.1 ht).1
        simp at this; omega
      subst e
      rw [List.getElem?_append_right (Nat.le_refl _), Nat.sub_self] at ht
      simp at ht
      subst ht
      rw [hnew, hcall]; exact hcur
  · rw [List.getLast?_concat] at hit
    cases hit
    rw [hcall]; exact hcur
  · rcases hheld q q0 q1 with rfl | ⟨t, ht, hc⟩
    · exact ⟨l.length, by simp, hnew⟩
    · exact ⟨t, by simp; omega, (hcar t ht).trans hc⟩
  · rw [e3 _ (by omega)]; exact hz q hq
theorem laidk_item (hf : 0 ≤ f ∧ f ≤ 255) (h : LaidTo f s at_ op l.length o) (hK : LaidK s op o l) (hj : l.length < 12) (ho : o ≤ l.length) {i : GItem} (hi : i.fits) (ha : i.again = true → ∃ it, l.getLast? = some it ∧ it.key = i.key) :
    ∃ o' : Int, o' ≤ l.length + 1 ∧ LaidTo f (layItem (s, at_, op) i).1 (layItem (s, at_, op) i).2.1 (layItem (s, at_, op) i).2.2 (l.length + 1) o' ∧ LaidK (layItem (s, at_, op) i).1 (layItem (s, at_, op) i).2.2 o' (l ++ [i]) := by
  have hfew := h.few
  by_cases hag : i.again = true
  · obtain ⟨it, hit, hik⟩ := ha hag
    have e : s.layOp op i = (s, op) := by unfold St.layOp; rw [if_pos hag]
    have hj0 : 0 < l.length := by
      cases l with
      | nil => simp at hit
      | cons a l => simp
    refine ⟨o, by omega, ?_⟩
    unfold layItem
    simp only [e]
    refine ⟨laid_node hf h hj (h.op hj0) i.mark, laidk_node hf h hj (h.op hj0) i i.mark hK.keys ?_ (fun q a b => .inr (hK.held q a b)) hK.none_ hK.zero⟩
    rw [← hik]; exact hK.cur it hit
  · have hag' : i.again = false := by simpa using hag
    obtain ⟨h1, h2, h3⟩ := laid_op hf h hj ho hi hag'
    obtain ⟨e0, e1, e2, e3⟩ := layOp_form hf h hj ho i hag'
    have hcall : ∀ q, (s.layOp op i).1.callOf q = (s.callOf q).or (if o = q then some ⟨1, i.key, i.val, 0⟩ else none) := fun q => by unfold St.callOf; rw [e1, look1_append]
    have hcar : ∀ q, (s.layOp op i).1.carried q = s.carried q := fun q => by unfold St.carried; rw [e2]
    refine ⟨o + 1, by omega, ?_⟩
    unfold layItem
    refine ⟨laid_node hf h1 hj ⟨h2, h3⟩ i.mark, laidk_node hf h1 hj ⟨h2, h3⟩ i i.mark ?_ ?_ ?_ ?_ ?_⟩
    · intro t it ht
      obtain ⟨v, hv⟩ := hK.keys t it ht
      exact ⟨v, by rw [hcar, hcall, hv]; rfl⟩
    · refine ⟨i.val, ?_⟩
      rw [e0, hcall, hK.none_ o (Int.le_refl _), if_pos rfl]; rfl
    · intro q q0 q1
      by_cases hq : q = o
      · left; rw [e0]; exact hq
      · obtain ⟨t, ht, hc⟩ := hK.held q q0 (by omega)
        exact .inr ⟨t, ht, (hcar _).trans hc⟩
    · intro q hq
      rw [hcall, hK.none_ q (by omega), if_neg (by omega)]; rfl
    · intro q hq
      rw [e3 _ (by omega)]; exact hK.zero q (by omega)
end
theorem laidk_items {f : Int} (hf : 0 ≤ f ∧ f ≤ 255) (l : List GItem) : ∀ {s : St} {at_ op o : Int} {a : List GItem}, LaidTo f s at_ op a.length o → LaidK s op o a → o ≤ a.length → a.length + l.length ≤ 12 → (∀ i ∈ l, i.fits) → (∀ (t : Nat) (i : GItem), (a ++ l)[t]? = some i → i.again = true → ∃ it, 0 < t ∧ (a ++ l)[t - 1]? = some it ∧ it.key = i.key) →
    ∃ o' : Int, o' ≤ (a ++ l).length ∧ LaidTo f (l.foldl layItem (s, at_, op)).1 (l.foldl layItem (s, at_, op)).2.1 (l.foldl layItem (s, at_, op)).2.2 (a ++ l).length o' ∧ LaidK (l.foldl layItem (s, at_, op)).1 (l.foldl layItem (s, at_, op)).2.2 o' (a ++ l) := by
  induction l with
  | nil => intro s at_ op o a h hK ho _ _ _; rw [List.append_nil]; exact ⟨o, ho, h, hK⟩
  | cons i l ih =>
    intro s at_ op o a h hK ho hl hfit ha
    simp only [List.length_cons] at hl
    have hag : i.again = true → ∃ it, a.getLast? = some it ∧ it.key = i.key := by
      intro e
      obtain ⟨it, h0, h1, h2⟩ := ha a.length i (by rw [List.getElem?_append_right (Nat.le_refl _), Nat.sub_self]; rfl) e
      refine ⟨it, ?_, h2⟩
      rw [List.getElem?_append_left (by omega)] at h1
      rw [List.getLast?_eq_getElem?]; exact h1
    obtain ⟨o1, ho1, h1, hK1⟩ := laidk_item hf h hK (by omega) ho (hfit i (.head _)) hag
    have e1 : a.length + 1 = (a ++ [i]).length := by simp
    rw [e1] at h1
    obtain ⟨o2, ho2, h2, hK2⟩ := ih h1 hK1 (by rw [← e1]; omega) (by rw [← e1]; omega) (fun k hk => hfit k (.tail _ hk)) (by
      intro t k hk hka
      have := ha t k (by rw [List.append_assoc] at hk; exact hk) hka
      rw [List.append_assoc]; exact this)
    refine ⟨o2, ?_⟩
    rw [List.append_assoc] at ho2 h2 hK2
    exact ⟨ho2, h2, hK2⟩

/-! ### The items, sorted -/
abbrev SortedG (l : List GItem) : Prop := l.Pairwise fun a b => a.key ≤ b.key
theorem takeW {l : List GItem} {p : GItem → Bool} : l.take (l.takeWhile p).length = l.takeWhile p ∧ l.drop (l.takeWhile p).length = l.dropWhile p := by
  have h := List.takeWhile_append_dropWhile (p := p) (l := l)
  constructor
  · conv => lhs; arg 2; rw [← h]
    exact List.take_left
  · conv => lhs; arg 2; rw [← h]
    exact List.drop_left
theorem dropW_gt {l : List GItem} {k : Int} (h : SortedG l) : ∀ q ∈ l.dropWhile (fun q => decide (q.key ≤ k)), k < q.key := by
  induction l with
  | nil => intro q hq; cases hq
  | cons a l ih =>
    intro q hq
    rw [List.dropWhile_cons] at hq
    split at hq
    · exact ih (List.pairwise_cons.1 h).2 q hq
    · rename_i hn
      have ha : k < a.key := by simpa using hn
      rcases List.mem_cons.1 hq with rfl | hq
      · exact ha
      · have := (List.pairwise_cons.1 h).1 q hq; omega
theorem takeW_le {l : List GItem} {k : Int} : ∀ q ∈ l.takeWhile (fun q => decide (q.key ≤ k)), q.key ≤ k := by
  induction l with
  | nil => intro q hq; cases hq
  | cons a l ih =>
    intro q hq
    rw [List.takeWhile_cons] at hq
    split at hq
    · rename_i hn
      rcases List.mem_cons.1 hq with rfl | hq
      · simpa using hn
      · exact ih q hq
    · cases hq
theorem insertItem_sorted {l : List GItem} (h : SortedG l) (i : GItem) : SortedG (insertItem l i) := by
  unfold insertItem place
  rw [takeW.1, takeW.2]
  have h1 : SortedG (l.takeWhile fun q => decide (q.key ≤ i.key)) := h.sublist (List.takeWhile_sublist _)
  have h2 : SortedG (l.dropWhile fun q => decide (q.key ≤ i.key)) := h.sublist (List.dropWhile_sublist _)
  have g1 := takeW_le (l := l) (k := i.key)
  have g2 := dropW_gt (k := i.key) h
  rw [List.append_assoc]
  refine List.pairwise_append.2 ⟨h1, ?_, ?_⟩
  · exact List.pairwise_cons.2 ⟨fun q hq => by have := g2 q hq; omega, h2⟩
  · intro a ha b hb
    have := g1 a ha
    rcases List.mem_cons.1 hb with rfl | hb
    · exact this
    · have := g2 b hb; omega
theorem placed_sorted (l : List GItem) : SortedG (placed l) := by
  unfold placed
  have : ∀ (l : List GItem) (a : List GItem), SortedG a → SortedG (l.foldl insertItem a) := by
    intro l
    induction l with
    | nil => intro a h; exact h
    | cons i l ih => intro a h; exact ih _ (insertItem_sorted h i)
  exact this l [] List.Pairwise.nil
theorem sorted_keys (x : Scene) {a b : Nat} {i j : GItem} (hi : x.sorted[a]? = some i) (hj : x.sorted[b]? = some j) (hab : a ≤ b) : i.key ≤ j.key := by
  unfold Scene.sorted at hi hj
  rw [clearTo_get] at hi hj
  cases hp : (placed x.items)[a]? with
  | none => rw [hp] at hi; cases hi
  | some i' =>
    cases hq : (placed x.items)[b]? with
    | none => rw [hq] at hj; cases hj
    | some j' =>
      rw [hp] at hi; rw [hq] at hj
      have ei : i.key = i'.key := by simp at hi; subst hi; split <;> rfl
      have ej : j.key = j'.key := by simp at hj; subst hj; split <;> rfl
      rw [ei, ej]
      rcases Nat.lt_or_ge a b with hlt | hge
      · obtain ⟨ha, rfl⟩ := List.getElem?_eq_some_iff.1 hp
        obtain ⟨hb, rfl⟩ := List.getElem?_eq_some_iff.1 hq
        exact List.pairwise_iff_getElem.1 (placed_sorted x.items) a b ha hb hlt
      · have : a = b := by omega
        subst this
        rw [hp] at hq; cases hq; exact Int.le_refl _
theorem sorted_again (x : Scene) {t : Nat} {i : GItem} (hi : x.sorted[t]? = some i) (ha : i.again = true) : ∃ it, 0 < t ∧ x.sorted[t - 1]? = some it ∧ it.key = i.key := by
  have hl : t < x.sorted.length := (List.getElem?_eq_some_iff.1 hi).1
  unfold Scene.sorted at hi hl ⊢
  rw [clearTo_len] at hl
  rw [clearTo_get] at hi
  obtain ⟨i', hp⟩ : ∃ i', (placed x.items)[t]? = some i' := ⟨_, List.getElem?_eq_getElem hl⟩
  rw [hp] at hi
  simp only [Option.map_some, Option.some.injEq] at hi
  split at hi
  · subst hi; cases ha
  · rename_i hn
    subst hi
    have hn' : ¬ lone (placed x.items) t i' = true := fun e => hn ⟨hl, e⟩
    unfold lone at hn'
    simp only [Bool.or_eq_true, beq_iff_eq, decide_eq_true_eq, not_or, Decidable.not_not] at hn'
    obtain ⟨h0, hk⟩ := hn'
    cases hq : (placed x.items)[t - 1]? with
    | none => rw [hq] at hk; cases hk
    | some q =>
      rw [hq] at hk
      obtain ⟨q', h1, h2⟩ := clearTo_key (j := (placed x.items).length) hq
      refine ⟨q', by omega, h1, ?_⟩
      rw [h2]
      simpa using hk
/-- What a scene's items are, laid. -/
theorem lay_K {x : Scene} (hx : x.fits) (hlen : x.items.length ≤ 12) : ∃ (op o : Int), LaidTo x.fuel ((St.new x.conf).layItems x.sorted).1 (1 + x.items.length) op x.items.length o ∧ o ≤ x.items.length ∧ LaidK ((St.new x.conf).layItems x.sorted).1 op o x.sorted := by
  obtain ⟨o, ho, h, hK⟩ := laidk_items hx.fuel x.sorted (a := []) (laid_new hx.fuel) (laidk_new x.fuel) (by simp) (by rw [sorted_len]; simpa using hlen) (sorted_fits hx.items) (fun t i hi ha => sorted_again x hi ha)
  rw [List.nil_append] at ho h hK
  rw [sorted_len] at ho h
  have hp := h.place
  refine ⟨_, o, ?_, ho, hK⟩
  rw [← hp]; exact h
theorem begin_callOf {s : St} {n q : Int} {c v : GCall} (h : s.callOf q = some v) : (s.begin n c).1.callOf q = some v := by
  unfold St.begin
  split
  · exact h
  · split
    · exact h
    · split
      · exact h
      · split
        · exact h
        · unfold St.callOf at h ⊢
          show look1 (s.ops ++ [_]) q = some v
          rw [look1_append, h]; rfl
theorem layCalls_callOf (l : List GCall) : ∀ {s : St} {q : Int} {v : GCall}, s.callOf q = some v → (s.layCalls l).callOf q = some v := by
  induction l with
  | nil => intro s q v h; exact h
  | cons c l ih => intro s q v h; exact ih (begin_callOf h)
theorem bucket_one (k : Int) : bucketOf k 1 = 0 := by
  unfold bucketOf
  split
  · have : k * 11400714819323198485 % 18446744073709551616 < 18446744073709551616 := Int.emod_lt_of_pos _ (by decide)
    have h0 : 0 ≤ k * 11400714819323198485 % 18446744073709551616 := Int.emod_nonneg _ (by decide)
    rw [Int.mul_one]
    exact Int.ediv_eq_zero_of_lt h0 this
  · rfl
/-- A laid scene is a laid chain. -/
theorem lay_laidV {x : Scene} (hx : x.fits) (hlen : x.items.length ≤ 12) : LaidV x.lay.vw x.items.length ∧ (∀ (t : Nat) (it : GItem), x.sorted[t]? = some it → x.lay.key (2 + t) = it.key) := by
  obtain ⟨op, o, h, ho, hK⟩ := lay_K hx hlen
  obtain ⟨c1, c2, c3, c4⟩ := layCalls_same x.calls ((St.new x.conf).layItems x.sorted).1
  have hok := (lay_path hx hlen).1
  have hcc : x.lay.c = ⟨3, 1, 16, x.fuel, 16⟩ := c1.trans h.c
  have hpk : ∀ q, x.lay.peek q = ((St.new x.conf).layItems x.sorted).1.peek q := fun q => by unfold St.peek Scene.lay; rw [c2]
  have hcar : ∀ q, x.lay.carried q = ((St.new x.conf).layItems x.sorted).1.carried q := fun q => by unfold St.carried Scene.lay; rw [c3]
  have hsl := sorted_len x
  have hkey : ∀ (t : Nat) (it : GItem), x.sorted[t]? = some it → ∃ v, x.lay.callOf (x.lay.carried (2 + t)) = some ⟨1, it.key, v, 0⟩ := by
    intro t it ht
    obtain ⟨v, hv⟩ := hK.keys t it ht
    exact ⟨v, by rw [hcar]; exact layCalls_callOf x.calls hv⟩
  have hkk : ∀ (t : Nat) (it : GItem), x.sorted[t]? = some it → x.lay.key (2 + t) = it.key := by
    intro t it ht
    obtain ⟨v, hv⟩ := hkey t it ht
    unfold St.key St.call
    rw [hv]; rfl
  have hn : ∀ n : Int, 0 ≤ n → n < 98 → x.lay.nextAt n = n := fun n h0 h1 => by
    refine nextAt_in h0 ?_
    rw [hcc, conf_nodes hx.fuel]; exact h1
  refine ⟨⟨by show x.lay.c.buckets = 1; rw [hcc], fun k => by show bucketOf k x.lay.c.buckets = 0; rw [hcc]; exact bucket_one k, ?_, ?_, ?_, ?_, ?_, ?_, ?_, ?_⟩, hkk⟩
  · show x.lay.peek (x.lay.nextAt 1) % 2 = 0
    rw [hn 1 (by omega) (by omega), hpk]; exact h.head
  · intro t ht
    show x.lay.peek (x.lay.nextAt (1 + t)) / 2 = 2 + t
    rw [hn _ (by omega) (by omega), hpk]; exact h.link t ht
  · show x.lay.peek (x.lay.nextAt (1 + x.items.length)) / 2 = 0
    rw [hn _ (by omega) (by omega), hpk]; exact h.last
  · intro t ht
    show 0 ≤ x.lay.carried (2 + t)
    rw [hcar]; exact (h.carried t ht).1
  · intro t ht
    obtain ⟨it, hit⟩ : ∃ it, x.sorted[t]? = some it := ⟨_, List.getElem?_eq_getElem (by omega)⟩
    obtain ⟨v, hv⟩ := hkey t it hit
    show (x.lay.call (x.lay.carried (2 + t))).kind = 1
    unfold St.call
    rw [hv]; rfl
  · intro t ht
    obtain ⟨i, hi⟩ : ∃ it, x.sorted[t]? = some it := ⟨_, List.getElem?_eq_getElem (by omega)⟩
    obtain ⟨j, hj⟩ : ∃ it, x.sorted[t + 1]? = some it := ⟨_, List.getElem?_eq_getElem (by omega)⟩
    have e1 := hkk t i hi
    have e2 := hkk (t + 1) j hj
    show x.lay.key (2 + t) ≤ x.lay.key (3 + t)
    rw [show (3 + (t : Int)) = 2 + ((t + 1 : Nat) : Int) by omega, e1, e2]
    exact sorted_keys x hi hj (Nat.le_succ t)
  · intro q
    exact (peek_range hok (x.lay.wordAt q)).1
  · intro q _ hw
    have hw' : x.lay.peek (x.lay.wordAt q) = 1 := hw
    rcases wordAt_cases x.lay q with ⟨e, h0, h1⟩ | ⟨e, _⟩
    · rw [e, hcc, conf_nodes hx.fuel, hpk] at hw'
      have hq : q < o := by
        by_cases hlt : q < o
        · exact hlt
        · rw [hK.zero q (by omega)] at hw'; cases hw'
      obtain ⟨t, ht, hc⟩ := hK.held q h0 hq
      rw [hsl] at ht
      refine ⟨t, ht, ?_⟩
      show x.lay.carried (2 + t) = q
      rw [hcar]; exact hc
    · rw [e, peek_neg] at hw'; cases hw'
end Go.Proofs.Ytccmjljlfgbicaa
