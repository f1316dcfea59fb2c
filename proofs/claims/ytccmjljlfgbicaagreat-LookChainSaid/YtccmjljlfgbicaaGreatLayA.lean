/- What the layers' lay wants: rows that are read while a world turns. -/
import Derived.Test.YtccmjljlfgbicaaGreatSorted
import Derived.Test.YtccmjljlfgbicaaGreatLaid
import Derived.Test.YtccmjljlfgbicaaGreatRef1
namespace Go.Proofs.YtccmjljlfgbicaaGreat
open Go.ChangeShapes Go.WideShapes Go.ChangeAt Go.RowKit

theorem row_any {w : World} {base : Nat} {e : TypeId} {size n : Nat} {v : Value} {xs : List Value} (h : w.ownsRow base e size v n xs) : ∃ ao cap, v = .slice ao n cap ∧ (0 < n → ∃ g, ao = some ⟨g, 0, none⟩ ∧ base ≤ g ∧ g < w.heap.size) := by
  rcases h.2 with ⟨rfl, rfl⟩ | ⟨g, cap, cur, rfl, h2, h3, h4, _⟩
  · exact ⟨none, 0, rfl, fun h => by omega⟩
  · exact ⟨some ⟨g, 0, none⟩, cap, rfl, fun _ => ⟨g, rfl, h2, row_lt (n := n) (cap := cap) h⟩⟩
theorem ownsRow_only {w w' : World} {base : Nat} {e : TypeId} {size n g cap : Nat} {xs : List Value} {S : Nat → Prop} (h : w.ownsRow base e size (.slice (some ⟨g, 0, none⟩) n cap) n xs) (ho : Only S w w') (hS : ¬ S g) : w'.ownsRow base e size (.slice (some ⟨g, 0, none⟩) n cap) n xs := by
  have hg := row_lt h
  refine ⟨h.1, h.2.imp id ?_⟩
  rintro ⟨g', cap', cur, h1, h2, h3, h4⟩
  injection h1 with e1 e2 e3
  injection e1 with e1
  injection e1 with e1
  subst e1; subst e3
  exact ⟨g, cap, cur, rfl, h2, (ho.block g hg hS).trans h3, h4⟩
/-- An item's fields, in a row that is read while a world turns. -/
theorem row_item {w w' : World} {base : Nat} {e : TypeId} {n g cap : Nat} {l : List GItem} {S : Nat → Prop} (h : w.ownsRow base e 5 (.slice (some ⟨g, 0, none⟩) n cap) n (itemsV l)) (ho : Only S w w') (hS : ¬ S g) {i : Nat} {it : GItem} (hi : l[i]? = some it) :
    w'.cell? ⟨g, i * 5, none⟩ = some (.int .u64 it.key) ∧ w'.cell? ⟨g, i * 5 + 1, none⟩ = some (.int .u64 it.val) ∧ w'.cell? ⟨g, i * 5 + 2, none⟩ = some (.int .u64 it.word) ∧ w'.cell? ⟨g, i * 5 + 3, none⟩ = some (.bool it.mark) ∧ w'.cell? ⟨g, i * 5 + 4, none⟩ = some (.bool it.again) := by
  have h' := ownsRow_only h ho hS
  obtain ⟨m0, m1, m2, m3, m4⟩ := itemsV_get hi
  exact ⟨row_cell h' m0, row_cell h' m1, row_cell h' m2, row_cell h' m3, row_cell h' m4⟩
theorem callsV_get {l : List GCall} {n : Nat} {i : GCall} (h : l[n]? = some i) : (callsV l)[n * 4]? = some (.int .i64 i.kind) ∧ (callsV l)[n * 4 + 1]? = some (.int .u64 i.key) ∧ (callsV l)[n * 4 + 2]? = some (.int .u64 i.val) ∧ (callsV l)[n * 4 + 3]? = some (.int .i64 i.limit) := by
  induction l generalizing n with
  | nil => simp at h
  | cons a l ih =>
    cases n with
    | zero =>
      simp only [List.getElem?_cons_zero, Option.some.injEq] at h
      subst h
      exact ⟨rfl, rfl, rfl, rfl⟩
    | succ n =>
      rw [List.getElem?_cons_succ] at h
      obtain ⟨h0, h1, h2, h3⟩ := ih h
      have key : ∀ j, (callsV (a :: l))[(n + 1) * 4 + j]? = (callsV l)[n * 4 + j]? := by
        intro j
        show (GCall.cells a ++ callsV l)[(n + 1) * 4 + j]? = _
        rw [List.getElem?_append_right (by simp [GCall.cells]; omega)]
        congr 1
        simp [GCall.cells]; omega
      exact ⟨(key 0).trans h0, (key 1).trans h1, (key 2).trans h2, (key 3).trans h3⟩
theorem call_read {w : World} {ao : Option Addr} {l : List GCall} {n : Nat} {i : GCall} (h : ReadAt w ao (callsV l)) (hi : l[n]? = some i) : ∃ b o, ao = some ⟨b, o, none⟩ ∧ b < w.heap.size ∧
    w.cell? ⟨b, o + n * 4, none⟩ = some (.int .i64 i.kind) ∧ w.cell? ⟨b, o + n * 4 + 1, none⟩ = some (.int .u64 i.key) ∧ w.cell? ⟨b, o + n * 4 + 2, none⟩ = some (.int .u64 i.val) ∧ w.cell? ⟨b, o + n * 4 + 3, none⟩ = some (.int .i64 i.limit) := by
  obtain ⟨m0, m1, m2, m3⟩ := callsV_get hi
  obtain ⟨b, o, hia, k0⟩ := h _ _ m0
  subst hia
  have key : ∀ j u, (callsV l)[n * 4 + j]? = some u → w.cell? ⟨b, o + n * 4 + j, none⟩ = some u := by
    intro j u hu
    obtain ⟨b', o', he, k⟩ := h _ _ hu
    injection he with he
    injection he with e1 e2
    subst e1; subst e2
    rw [Nat.add_assoc]; exact k
  exact ⟨b, o, rfl, World.block_lt_of_cell? w _ k0, k0, key 1 _ m1, key 2 _ m2, key 3 _ m3⟩

theorem scene_cells {w w' : World} {a b c : Value} {t : TypeId} (hb : Below (w.alloc (.cells #[a, b, c] t)).heap.size (w.alloc (.cells #[a, b, c] t)) w') : w'.cell? ⟨w.heap.size, 0, none⟩ = some a ∧ w'.cell? ⟨w.heap.size, 1, none⟩ = some b ∧ w'.cell? ⟨w.heap.size, 2, none⟩ = some c := by
  refine ⟨?_, ?_, ?_⟩
  all_goals (rw [hb.cell (by simp)]; go_simp)

theorem refOf_u64 (n : Int) (m : Bool) : 0 ≤ refOf n m ∧ refOf n m ≤ 18446744073709551615 := by have := refOf_range n m; omega

/-- An item more is laid. -/
theorem take_next {l : List GItem} {i : Nat} {it : GItem} (h : l[i]? = some it) (p : St × Int × Int) : (l.take (i + 1)).foldl layItem p = layItem ((l.take i).foldl layItem p) it := by
  rw [List.take_add_one, h, List.foldl_append]; rfl
theorem calls_next {l : List GCall} {i : Nat} {it : GCall} (h : l[i]? = some it) (s : St) : s.layCalls (l.take (i + 1)) = ((s.layCalls (l.take i)).begin 2 it).1 := by
  unfold St.layCalls
  rw [List.take_add_one, h, List.foldl_append]; rfl

end Go.Proofs.YtccmjljlfgbicaaGreat
