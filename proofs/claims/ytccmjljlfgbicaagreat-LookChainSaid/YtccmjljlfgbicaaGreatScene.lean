/- Scenes: what they hold, how many, their layout. -/
import Derived.Test.YtccmjljlfgbicaaGreatHolds
import Derived.Deep.AppendLies
import Derived.Deep.Onto
import Derived.Deep.Upon
import Derived.Deep.LoopGhost
import Derived.Deep.Cut
namespace Go.Proofs.YtccmjljlfgbicaaGreat
open Go.ChangeShapes Go.WideShapes Go.ChangeAt Go.RowKit

theorem ownsRow_still {w w' : World} {base : Nat} {e : TypeId} {size : Nat} {v : Value} {n : Nat} {xs : List Value} (h : w.ownsRow base e size v n xs) (hb : Below w.heap.size w w') : w'.ownsRow base e size v n xs := by
  refine ⟨h.1, h.2.imp id ?_⟩
  rintro ⟨g, cap, cur, h1, h2, h3, h4⟩
  have hg : g < w.heap.size := by
    rcases Nat.lt_or_ge g w.heap.size with hlt | hge
    · exact hlt
    · rw [Array.getElem?_eq_none hge] at h3; cases h3
  exact ⟨g, cap, cur, h1, h2, (hb.block g hg).trans h3, h4⟩
theorem row_form {w : World} {base : Nat} {e : TypeId} {size n : Nat} {v : Value} {xs : List Value} (h : w.ownsRow base e size v n xs) (hv : ¬ v = .slice none 0 0) : ∃ g cap, v = .slice (some ⟨g, 0, none⟩) n cap ∧ base ≤ g ∧ n ≤ cap := by
  rcases h.2 with ⟨h1, _⟩ | ⟨g, cap, cur, h1, h2, _, h4, _⟩
  · exact absurd h1 hv
  · exact ⟨g, cap, h1, h2, h4⟩
theorem grown_below {w w1 w2 : World} {B g : Nat} (h : Below B w w1) (hg : w1.grownBy w2 (some g)) (hB : B ≤ g) (hs : B ≤ w1.heap.size) : Below B w w2 :=
  ⟨hg.os.trans h.os, hg.tape.trans h.tape, hg.output.trans h.output, Nat.le_trans h.size hg.size, fun i hi => (hg.block i (by omega) (by intro e; injection e with e; omega)).trans (h.block i hi)⟩
theorem row_cell {w : World} {base : Nat} {e : TypeId} {size g n cap : Nat} {xs : List Value} (h : w.ownsRow base e size (.slice (some ⟨g, 0, none⟩) n cap) n xs) {j : Nat} {u : Value} (hu : xs[j]? = some u) : w.cell? ⟨g, j, none⟩ = some u := by
  have hj : j < n * size := by
    rcases Nat.lt_or_ge j (n * size) with hlt | hge
    · exact hlt
    · rw [List.getElem?_eq_none (by rw [h.1]; exact hge)] at hu; cases hu
  rw [h.cellAt j hj]; exact hu

theorem row_lt {w : World} {base : Nat} {e : TypeId} {size g n cap : Nat} {xs : List Value} (h : w.ownsRow base e size (.slice (some ⟨g, 0, none⟩) n cap) n xs) : g < w.heap.size := by
  rcases h.2 with ⟨h1, _⟩ | ⟨g', cap', cur, h1, h2, h3, _⟩
  · cases h1
  · injection h1 with h1; injection h1 with h1; injection h1 with h1; subst h1
    rcases Nat.lt_or_ge g w.heap.size with hlt | hge
    · exact hlt
    · rw [Array.getElem?_eq_none hge] at h3; cases h3
theorem take_get {α : Type} {l : List α} {n j : Nat} {u : α} (h : (l.take n)[j]? = some u) : l[j]? = some u := by
  rw [List.getElem?_take] at h
  split at h
  · exact h
  · cases h

structure GItem where
  key : Int
  val : Int
  word : Int
  mark : Bool
  again : Bool
deriving DecidableEq
def GItem.cells (i : GItem) : List Value := [.int .u64 i.key, .int .u64 i.val, .int .u64 i.word, .bool i.mark, .bool i.again]
def GItem.v (i : GItem) : Value := .agg #[.int .u64 i.key, .int .u64 i.val, .int .u64 i.word, .bool i.mark, .bool i.again]
def GItem.fits (i : GItem) : Prop := (0 ≤ i.key ∧ i.key ≤ 18446744073709551615) ∧ (0 ≤ i.val ∧ i.val ≤ 18446744073709551615) ∧ (0 ≤ i.word ∧ i.word ≤ 18446744073709551615)
def itemsV (l : List GItem) : List Value := l.flatMap GItem.cells
def GCall.cells (c : GCall) : List Value := [.int .i64 c.kind, .int .u64 c.key, .int .u64 c.val, .int .i64 c.limit]
def callsV (l : List GCall) : List Value := l.flatMap GCall.cells

structure Scene where
  fuel : Int
  items : List GItem
  calls : List GCall
deriving DecidableEq
def Scene.conf (x : Scene) : Conf := ⟨3, 1, 16, x.fuel, 16⟩
def Scene.few (x : Scene) : Bool := decide (x.items.length ≤ 12) && decide (x.calls.length ≤ 6)

/-- A slice's elements are where it says. -/
def ReadAt (w : World) (ao : Option Addr) (cs : List Value) : Prop := ∀ j u, cs[j]? = some u → ∃ b o, ao = some ⟨b, o, none⟩ ∧ w.cell? ⟨b, o + j, none⟩ = some u
/-- A scene's value, and its elements in a world. -/
structure SceneAt (w : World) (v : Value) (x : Scene) (ia ca : Option Addr) (ic cc : Nat) : Prop where
  v : v = .agg #[.int .u8 x.fuel, .slice ia x.items.length ic, .slice ca x.calls.length cc]
  items : ReadAt w ia (itemsV x.items)
  calls : ReadAt w ca (callsV x.calls)

theorem ReadAt.below {w w' : World} {ao : Option Addr} {cs : List Value} (h : ReadAt w ao cs) (hb : Below w.heap.size w w') : ReadAt w' ao cs := by
  intro j u hu
  obtain ⟨b, o, h1, h2⟩ := h j u hu
  exact ⟨b, o, h1, by rw [hb.cell (p := ⟨b, o + j, none⟩) (World.block_lt_of_cell? w ⟨b, o + j, none⟩ h2)]; exact h2⟩

set_option maxHeartbeats 1000000 in
theorem few_any {x : Scene} {ia ca : Option Addr} {ic cc : Nat} (w : World) :
    Calls Tryz.prog 14 #[.agg #[.int .u8 x.fuel, .slice ia x.items.length ic, .slice ca x.calls.length cc]] w fun e w' => e = .returned (.bool x.few) ∧ Below w.heap.size w w' := by
  by_cases h1 : x.items.length ≤ 12
  · by_cases h2 : x.calls.length ≤ 6
    · have hx := Lib.hid (show x.few = true by unfold Scene.few; simp [h1, h2])
      go_enter Tryz.func14, Tryz.ntmps14
      go_wp2
      go_ret
      exact ⟨ret_b (by rw [hx.out]; simp; omega), (Below.refl _ _).alloc (Nat.le_refl _) _⟩
    · have hx := Lib.hid (show x.few = false by unfold Scene.few; simp [h2])
      go_enter Tryz.func14, Tryz.ntmps14
      go_wp2
      go_ret
      exact ⟨ret_b (by rw [hx.out]; simp; omega), (Below.refl _ _).alloc (Nat.le_refl _) _⟩
  · have hx := Lib.hid (show x.few = false by unfold Scene.few; simp [h1])
    go_enter Tryz.func14, Tryz.ntmps14
    go_wp2
    go_ret
    exact ⟨ret_b hx.out.symm, (Below.refl _ _).alloc (Nat.le_refl _) _⟩

set_option maxHeartbeats 1000000 in
theorem sconf_any {x : Scene} {ia ca : Option Addr} {ic cc : Nat} (w : World) (hf : 0 ≤ x.fuel ∧ x.fuel ≤ 255) :
    Calls Tryz.prog 55 #[.agg #[.int .u8 x.fuel, .slice ia x.items.length ic, .slice ca x.calls.length cc]] w fun e w' => e = .returned x.conf.val ∧ Below w.heap.size w w' := by
  go_enter Tryz.func55, Tryz.ntmps55
  go_wp2
  exact bodyPost_ret (v := x.conf.val) (by simp [results, Tryz.results55, go_sem, Scene.conf]) rfl ⟨rfl, ((Below.refl _ _).alloc (Nat.le_refl _) _).alloc (by simp) _⟩

/-! ### The items, sorted -/

/-- An item put into a list, behind all whose keys aren't greater. -/
def place (l : List GItem) (key : Int) : Nat := (l.takeWhile fun i => decide (i.key ≤ key)).length
def insertItem (l : List GItem) (i : GItem) : List GItem := l.take (place l i.key) ++ [i] ++ l.drop (place l i.key)
def placed (l : List GItem) : List GItem := l.foldl insertItem []
/-- An item that is the first with its key. -/
def lone (l : List GItem) (m : Nat) (i : GItem) : Bool := m == 0 || decide ((l[m - 1]?).map GItem.key ≠ some i.key)
/-- No item (of the first j) carries the operation of an item with another key. -/
def clearTo (l : List GItem) (j : Nat) : List GItem := l.mapIdx fun m i => if m < j ∧ lone l m i = true then { i with again := false } else i
def Scene.sorted (x : Scene) : List GItem := clearTo (placed x.items) (placed x.items).length

theorem clearTo_get (l : List GItem) (j m : Nat) : (clearTo l j)[m]? = (l[m]?).map fun i => if m < j ∧ lone l m i = true then { i with again := false } else i := by
  unfold clearTo; rw [List.getElem?_mapIdx]
theorem clearTo_len (l : List GItem) (j : Nat) : (clearTo l j).length = l.length := by simp [clearTo]
theorem clearTo_key {l : List GItem} {j m : Nat} {i : GItem} (h : l[m]? = some i) : ∃ i', (clearTo l j)[m]? = some i' ∧ i'.key = i.key := by
  rw [clearTo_get, h]
  refine ⟨_, rfl, ?_⟩
  dsimp only
  split <;> rfl
theorem clearTo_zero (l : List GItem) : clearTo l 0 = l := by
  refine List.ext_getElem? fun m => ?_
  rw [clearTo_get]
  cases l[m]? <;> simp
theorem clearTo_yes {l : List GItem} {j : Nat} {i i' : GItem} (h : l[j]? = some i) (hl : lone l j i = true) (h' : (clearTo l j)[j]? = some i') : clearTo l (j + 1) = (clearTo l j).set j { i' with again := false } := by
  have e' : i' = i := by
    rw [clearTo_get, h] at h'
    simp at h'
    exact h'.symm
  subst e'
  refine List.ext_getElem? fun m => ?_
  rw [List.getElem?_set, clearTo_get, clearTo_len]
  by_cases hm : j = m
  · subst hm
    have hj : j < l.length := by
      rcases Nat.lt_or_ge j l.length with hlt | hge
      · exact hlt
      · rw [List.getElem?_eq_none hge] at h; cases h
    rw [if_pos rfl, if_pos hj, h]
    simp [hl]
  · rw [if_neg hm, clearTo_get]
    cases l[m]? with
    | none => rfl
    | some y =>
      have : (m < j + 1) = (m < j) := by rw [eq_iff_iff]; omega
      simp [this]
theorem clearTo_no {l : List GItem} {j : Nat} {i : GItem} (h : l[j]? = some i) (hl : lone l j i = false) : clearTo l (j + 1) = clearTo l j := by
  refine List.ext_getElem? fun m => ?_
  rw [clearTo_get, clearTo_get]
  by_cases hm : j = m
  · subst hm; rw [h]; simp [hl]
  · cases l[m]? with
    | none => rfl
    | some y =>
      have : (m < j + 1) = (m < j) := by rw [eq_iff_iff]; omega
      simp [this]

theorem place_le (l : List GItem) (key : Int) : place l key ≤ l.length := (List.takeWhile_sublist _).length_le
theorem insertItem_len (l : List GItem) (i : GItem) : (insertItem l i).length = l.length + 1 := by
  have := place_le l i.key
  simp [insertItem]; omega
theorem placed_snoc (l : List GItem) (i : GItem) : placed (l ++ [i]) = insertItem (placed l) i := by simp [placed]
theorem placed_len (l : List GItem) : (placed l).length = l.length := by
  have h : ∀ (m acc : List GItem), (m.foldl insertItem acc).length = acc.length + m.length := by
    intro m
    induction m with
    | nil => intro acc; simp
    | cons i m ih => intro acc; rw [List.foldl_cons, ih, insertItem_len]; simp; omega
  simpa [placed] using h l []
theorem itemsV_len (l : List GItem) : (itemsV l).length = l.length * 5 := by
  induction l with
  | nil => rfl
  | cons i l ih => simp only [itemsV, List.flatMap_cons, List.length_append] at ih ⊢; rw [ih]; simp [GItem.cells]; omega
theorem itemsV_one (l : List GItem) : ∀ u ∈ itemsV l, u.oneCell' = true := by
  intro u hu
  obtain ⟨i, _, hu⟩ := List.mem_flatMap.1 hu
  simp only [GItem.cells, List.mem_cons, List.not_mem_nil, or_false] at hu
  rcases hu with rfl | rfl | rfl | rfl | rfl <;> rfl
theorem GItem.cells_one (i : GItem) : ∀ u ∈ i.cells, u.oneCell' = true := by
  intro u hu
  simp only [GItem.cells, List.mem_cons, List.not_mem_nil, or_false] at hu
  rcases hu with rfl | rfl | rfl | rfl | rfl <;> rfl
theorem itemsV_append (l m : List GItem) : itemsV (l ++ m) = itemsV l ++ itemsV m := by simp [itemsV]
theorem itemsV_take (l : List GItem) (n : Nat) : itemsV (l.take n) = (itemsV l).take (n * 5) := by
  induction n generalizing l with
  | zero => simp [itemsV]
  | succ n ih =>
    cases l with
    | nil => simp [itemsV]
    | cons i l =>
      rw [List.take_succ_cons]
      show GItem.cells i ++ itemsV (l.take n) = (GItem.cells i ++ itemsV l).take ((n + 1) * 5)
      rw [ih, List.take_append, show (n + 1) * 5 = n * 5 + 5 by omega]
      simp [GItem.cells]
theorem itemsV_drop (l : List GItem) (n : Nat) : itemsV (l.drop n) = (itemsV l).drop (n * 5) := by
  induction n generalizing l with
  | zero => simp [itemsV]
  | succ n ih =>
    cases l with
    | nil => simp [itemsV]
    | cons i l =>
      rw [List.drop_succ_cons, ih]
      show _ = (GItem.cells i ++ itemsV l).drop ((n + 1) * 5)
      rw [List.drop_append, show (n + 1) * 5 = n * 5 + 5 by omega]
      simp [GItem.cells]
/-- The fields of an item in the row. -/
theorem itemsV_get {l : List GItem} {n : Nat} {i : GItem} (h : l[n]? = some i) : (itemsV l)[n * 5]? = some (.int .u64 i.key) ∧ (itemsV l)[n * 5 + 1]? = some (.int .u64 i.val) ∧ (itemsV l)[n * 5 + 2]? = some (.int .u64 i.word) ∧ (itemsV l)[n * 5 + 3]? = some (.bool i.mark) ∧ (itemsV l)[n * 5 + 4]? = some (.bool i.again) := by
  have hd : l.drop n = i :: l.drop (n + 1) := by
    have hn : n < l.length := by
      rcases Nat.lt_or_ge n l.length with hlt | hge
      · exact hlt
      · rw [List.getElem?_eq_none hge] at h; cases h
    rw [List.drop_eq_getElem_cons hn]
    rw [List.getElem?_eq_getElem hn] at h
    injection h with h; rw [h]
  have hv := itemsV_drop l n
  rw [hd] at hv
  have key : ∀ j, (itemsV l)[n * 5 + j]? = (GItem.cells i ++ itemsV (l.drop (n + 1)))[j]? := by
    intro j
    rw [← List.getElem?_drop, ← hv]; rfl
  exact ⟨key 0, key 1, key 2, key 3, key 4⟩

theorem itemsV_again (l : List GItem) (n : Nat) {i : GItem} (h : l[n]? = some i) (b : Bool) : itemsV (l.set n { i with again := b }) = (itemsV l).set (n * 5 + 4) (.bool b) := by
  induction l generalizing n with
  | nil => simp at h
  | cons a l ih =>
    cases n with
    | zero =>
      simp only [List.getElem?_cons_zero, Option.some.injEq] at h
      subst h
      simp [itemsV, GItem.cells]
    | succ n =>
      rw [List.getElem?_cons_succ] at h
      have := ih n h
      rw [List.set_cons_succ]
      show GItem.cells a ++ itemsV (l.set n _) = (GItem.cells a ++ itemsV l).set ((n + 1) * 5 + 4) _
      rw [this, show (n + 1) * 5 + 4 = n * 5 + 4 + 5 by omega]
      simp [GItem.cells]

theorem item_read {w : World} {ao : Option Addr} {l : List GItem} {n : Nat} {i : GItem} (h : ReadAt w ao (itemsV l)) (hi : l[n]? = some i) : ∃ b o, ao = some ⟨b, o, none⟩ ∧ b < w.heap.size ∧
    w.cell? ⟨b, o + n * 5, none⟩ = some (.int .u64 i.key) ∧ w.cell? ⟨b, o + n * 5 + 1, none⟩ = some (.int .u64 i.val) ∧ w.cell? ⟨b, o + n * 5 + 2, none⟩ = some (.int .u64 i.word) ∧ w.cell? ⟨b, o + n * 5 + 3, none⟩ = some (.bool i.mark) ∧ w.cell? ⟨b, o + n * 5 + 4, none⟩ = some (.bool i.again) := by
  obtain ⟨m0, m1, m2, m3, m4⟩ := itemsV_get hi
  obtain ⟨b, o, hia, k0⟩ := h _ _ m0
  subst hia
  have key : ∀ j u, (itemsV l)[n * 5 + j]? = some u → w.cell? ⟨b, o + n * 5 + j, none⟩ = some u := by
    intro j u hu
    obtain ⟨b', o', he, k⟩ := h _ _ hu
    injection he with he
    injection he with e1 e2
    subst e1; subst e2
    rw [Nat.add_assoc]; exact k
  exact ⟨b, o, rfl, World.block_lt_of_cell? w _ k0, k0, key 1 _ m1, key 2 _ m2, key 3 _ m3, key 4 _ m4⟩

theorem place_cons (a : GItem) (l : List GItem) (key : Int) : place (a :: l) key = if a.key ≤ key then place l key + 1 else 0 := by
  unfold place
  rw [List.takeWhile_cons]
  by_cases h : a.key ≤ key
  · rw [if_pos (by simpa using h), if_pos h]; rfl
  · rw [if_neg (by simpa using h), if_neg h]; rfl
theorem place_step {l : List GItem} {key : Int} {n : Nat} {i : GItem} (hn : n ≤ place l key) (h : l[n]? = some i) : (i.key ≤ key → n + 1 ≤ place l key) ∧ (¬ i.key ≤ key → n = place l key) := by
  induction l generalizing n with
  | nil => simp at h
  | cons a l ih =>
    rw [place_cons] at hn ⊢
    cases n with
    | zero =>
      simp only [List.getElem?_cons_zero, Option.some.injEq] at h
      subst h
      by_cases hk : a.key ≤ key
      · rw [if_pos hk]; exact ⟨fun _ => by omega, fun k => absurd hk k⟩
      · rw [if_neg hk]; exact ⟨fun k => absurd k hk, fun _ => rfl⟩
    | succ n =>
      rw [List.getElem?_cons_succ] at h
      by_cases hk : a.key ≤ key
      · rw [if_pos hk] at hn ⊢
        have := ih (by omega) h
        exact ⟨fun k => by have := this.1 k; omega, fun k => by have := this.2 k; omega⟩
      · rw [if_neg hk] at hn; omega

theorem placed_next {l : List GItem} {i n : Nat} {it : GItem} (h : l[i]? = some it) (hn : n = place (placed (l.take i)) it.key) : itemsV (placed (l.take (i + 1))) = (itemsV (placed (l.take i))).take (n * 5) ++ it.cells ++ (itemsV (placed (l.take i))).drop (n * 5) := by
  have e : l.take (i + 1) = l.take i ++ [it] := by rw [List.take_add_one, h]; rfl
  rw [e, placed_snoc, insertItem, itemsV_append, itemsV_append, itemsV_take, itemsV_drop, ← hn]
  simp [itemsV]

end Go.Proofs.YtccmjljlfgbicaaGreat
