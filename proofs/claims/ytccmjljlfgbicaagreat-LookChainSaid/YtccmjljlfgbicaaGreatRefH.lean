/- Contracts of the document's answer: what a book tells. -/
import Derived.Test.YtccmjljlfgbicaaGreatRefF
import Derived.Deep.LoopGhost
import Derived.Deep.Cut
namespace Go.Proofs.YtccmjljlfgbicaaGreat
open Go.ChangeShapes Go.WideShapes Go.ChangeAt Go.RowKit

theorem rows_get {α : Type} {f : α → List Value} {c : Nat} (hc : ∀ x, (f x).length = c) {l : List α} {i : Nat} {x : α} (h : l[i]? = some x) {j : Nat} {u : Value} (hu : (f x)[j]? = some u) : (l.flatMap f)[i * c + j]? = some u := by
  induction l generalizing i with
  | nil => simp at h
  | cons a l ih =>
    rw [List.flatMap_cons]
    cases i with
    | zero =>
      simp only [List.getElem?_cons_zero, Option.some.injEq] at h
      subst h
      have hj : j < (f a).length := (List.getElem?_eq_some_iff.1 hu).1
      rw [Nat.zero_mul, Nat.zero_add, List.getElem?_append_left hj]; exact hu
    | succ i =>
      rw [List.getElem?_cons_succ] at h
      rw [List.getElem?_append_right (by rw [hc, Nat.add_mul]; omega), hc, show (i + 1) * c + j - c = i * c + j by rw [Nat.add_mul]; omega]
      exact ih h
/-- A thing's cells, in a row that can be read. -/
theorem row_read {α : Type} {f : α → List Value} {c : Nat} (hc : ∀ x, (f x).length = c) (hc0 : 0 < c) {w : World} {ao : Option Addr} {l : List α} (h : ReadAt w ao (l.flatMap f)) {i : Nat} {x : α} (hi : l[i]? = some x) :
    ∃ b o, ao = some ⟨b, o, none⟩ ∧ b < w.heap.size ∧ ∀ j u, (f x)[j]? = some u → w.cell? ⟨b, o + i * c + j, none⟩ = some u := by
  obtain ⟨v0, hv0⟩ : ∃ v0, (f x)[0]? = some v0 := ⟨_, List.getElem?_eq_getElem (by rw [hc]; exact hc0)⟩
  obtain ⟨b, o, h1, h2⟩ := h _ _ (rows_get hc hi hv0)
  refine ⟨b, o, h1, World.block_lt_of_cell? w _ h2, fun j u hu => ?_⟩
  obtain ⟨b', o', h3, h4⟩ := h _ _ (rows_get hc hi hu)
  rw [h1] at h3
  injection h3 with h3
  injection h3 with e1 e2
  subst e1; subst e2
  rw [Nat.add_assoc]; exact h4

/-- A place in a list of pairs, by the first. -/
def Found {α : Type} (l : List (Int × α)) (k v : Int) : Prop := (∃ (i : Nat) (c : α), v = i ∧ l[i]? = some (k, c) ∧ look1 l k = some c) ∨ (v = -1 ∧ look1 l k = none)
theorem look_drop {α : Type} {l : List (Int × α)} {k : Int} {i : Nat} {p : Int × α} (h : l[i]? = some p) (hl : look1 (l.drop i) k = look1 l k) : (p.1 = k → look1 l k = some p.2) ∧ (p.1 ≠ k → look1 (l.drop (i + 1)) k = look1 l k) := by
  have hi : i < l.length := (List.getElem?_eq_some_iff.1 h).1
  have hp : l[i] = p := (List.getElem?_eq_some_iff.1 h).2
  rw [List.drop_eq_getElem_cons hi, look1_cons, hp] at hl
  exact ⟨fun e => by rw [if_pos e] at hl; exact hl.symm, fun e => by rw [if_neg e] at hl; exact hl⟩

set_option maxRecDepth 100000 in
set_option maxHeartbeats 1000000 in
theorem rfind_any {r : RV} {s : St} (op : Int) (w : World) (h : BookIn w r s) (hs : s.ops.length ≤ 4096) :
    Calls Tryz.prog 137 #[r.book s, .int .i64 op] w fun e w' => ∃ v, e = .returned (.int .i64 v) ∧ Found s.ops op v ∧ Below w.heap.size w w' := by
  have HO := Lib.hid h.os
  clear h
  have hb := (Below.refl w.heap.size w).alloc (Nat.le_refl _) (.cells (r.bcells s) 43)
  have HB := Lib.hid hb
  have A0 := At.new w 43 (r.bcells s)
  have c4 : (w.alloc (.cells (r.bcells s) 43)).cell? ⟨w.heap.size, 8, none⟩ = some (.slice r.os.1 s.ops.length r.os.2) := A0.cell 8
  clear A0 hb
  go_enter Tryz.func137, Tryz.ntmps137
  go_wp2_with fail
  go_loopg [5] s.ops.length (fun gg v5 wr => ∃ i : Nat, v5 = .int .i64 i ∧ i + gg = s.ops.length ∧ look1 (s.ops.drop i) op = look1 s.ops op ∧ wr = w.alloc (.cells (r.bcells s) 43))
  case atStart => exact ⟨0, rfl, by omega, rfl, rfl⟩
  case round =>
    obtain ⟨i, rfl, hi, hl, rfl⟩ := hrel
    by_cases hlt : i < s.ops.length
    · obtain ⟨⟨k, c⟩, hp⟩ : ∃ p, s.ops[i]? = some p := ⟨_, List.getElem?_eq_getElem hlt⟩
      obtain ⟨b, o, hao, lb, hcell⟩ := row_read (f := opRow) (c := 5) (fun _ => rfl) (by decide) (HO.out.below HB.out) hp
      have q0 := hcell 0 _ rfl
      rw [Nat.add_zero] at q0
      obtain ⟨l1, l2⟩ := look_drop hp hl
      have HP := Lib.hid hp
      have HL := Lib.hid (And.intro l1 l2)
      clear hp hl l1 l2 hcell
      rw [hao] at c4
      by_cases hk : k = op
      · have hk' : (k == op) = true := by simpa using hk
        go_wp2
        go_ret
        exact ⟨_, rfl, .inl ⟨i, c, rfl, by rw [← hk]; exact HP.out, HL.out.1 hk⟩, HB.out⟩
      · have hk' : (k == op) = false := by simpa using hk
        go_wp2_with fail
        go_roundg (s.ops.length - (i + 1))
        case measure => omega
        case rel => exact ⟨i + 1, rfl, by omega, HL.out.2 hk, rfl⟩
    · have e : i = s.ops.length := by omega
      rw [e, List.drop_length, look1_nil] at hl
      have HL := Lib.hid hl
      clear hl e
      go_wp2
      go_ret
      exact ⟨_, rfl, .inr ⟨rfl, HL.out.symm⟩, HB.out⟩

set_option maxRecDepth 100000 in
set_option maxHeartbeats 1000000 in
theorem rcarried_any {r : RV} {s : St} (n : Int) (w : World) (h : BookIn w r s) (hs : s.nodes.length ≤ 8192) :
    Calls Tryz.prog 78 #[r.book s, .int .i64 n] w fun e w' => e = .returned (.int .i64 (s.carried n)) ∧ Below w.heap.size w w' := by
  have HO := Lib.hid h.ns
  clear h
  have hb := (Below.refl w.heap.size w).alloc (Nat.le_refl _) (.cells (r.bcells s) 43)
  have HB := Lib.hid hb
  have A0 := At.new w 43 (r.bcells s)
  have c4 : (w.alloc (.cells (r.bcells s) 43)).cell? ⟨w.heap.size, 9, none⟩ = some (.slice r.ns.1 s.nodes.length r.ns.2) := A0.cell 9
  clear A0 hb
  go_enter Tryz.func78, Tryz.ntmps78
  go_wp2_with fail
  go_loopg [5] s.nodes.length (fun gg v5 wr => ∃ i : Nat, v5 = .int .i64 i ∧ i + gg = s.nodes.length ∧ look1 (s.nodes.drop i) n = look1 s.nodes n ∧ wr = w.alloc (.cells (r.bcells s) 43))
  case atStart => exact ⟨0, rfl, by omega, rfl, rfl⟩
  case round =>
    obtain ⟨i, rfl, hi, hl, rfl⟩ := hrel
    by_cases hlt : i < s.nodes.length
    · obtain ⟨⟨k, c⟩, hp⟩ : ∃ p, s.nodes[i]? = some p := ⟨_, List.getElem?_eq_getElem hlt⟩
      obtain ⟨b, o, hao, lb, hcell⟩ := row_read (f := nodeRow) (c := 2) (fun _ => rfl) (by decide) (HO.out.below HB.out) hp
      have q0 := hcell 0 _ rfl
      have q1 := hcell 1 _ rfl
      rw [Nat.add_zero] at q0
      obtain ⟨l1, l2⟩ := look_drop hp hl
      have HL := Lib.hid (And.intro l1 l2)
      clear hp hl l1 l2 hcell
      rw [hao] at c4
      by_cases hk : k = n
      · have hk' : (k == n) = true := by simpa using hk
        have HR := Lib.hid (show s.carried n = c by unfold St.carried; rw [HL.out.1 hk]; rfl)
        go_wp2
        go_ret
        exact ⟨ret_u HR.out.symm, HB.out⟩
      · have hk' : (k == n) = false := by simpa using hk
        go_wp2_with fail
        go_roundg (s.nodes.length - (i + 1))
        case measure => omega
        case rel => exact ⟨i + 1, rfl, by omega, HL.out.2 hk, rfl⟩
    · have e : i = s.nodes.length := by omega
      rw [e, List.drop_length, look1_nil] at hl
      have HR := Lib.hid (show s.carried n = -1 by unfold St.carried; rw [← hl]; rfl)
      clear hl e
      go_wp2
      go_ret
      exact ⟨ret_u HR.out.symm, HB.out⟩

set_option maxRecDepth 100000 in
set_option maxHeartbeats 1000000 in
theorem ris_any {r : RV} {s : St} (n : Int) (w : World) :
    Calls Tryz.prog 133 #[r.book s, .int .i64 n] w fun e w' => e = .returned (.bool (inTop n s.thr.length)) ∧ Below w.heap.size w w' := by
  by_cases h0 : 0 ≤ n
  · by_cases h1 : n < (s.thr.length : Int)
    · have hi := Lib.hid (show inTop n s.thr.length = true by unfold inTop; simp [h0, h1])
      go_enter Tryz.func133, Tryz.ntmps133
      go_wp2
      go_ret
      exact ⟨ret_b (by rw [hi.out]; try (simp; omega)), (Below.refl _ _).alloc (Nat.le_refl _) _⟩
    · have hi := Lib.hid (show inTop n s.thr.length = false by unfold inTop; simp; omega)
      go_enter Tryz.func133, Tryz.ntmps133
      go_wp2
      go_ret
      exact ⟨ret_b (by rw [hi.out]; try (simp; omega)), (Below.refl _ _).alloc (Nat.le_refl _) _⟩
  · have hi := Lib.hid (show inTop n s.thr.length = false by unfold inTop; simp; omega)
    go_enter Tryz.func133, Tryz.ntmps133
    go_wp2
    go_ret
    exact ⟨ret_b (by rw [hi.out]; try (simp; omega)), (Below.refl _ _).alloc (Nat.le_refl _) _⟩

/-- The fields of a call, of none. -/
abbrev zero4 : Array Value := #[.int .i64 0, .int .u64 0, .int .u64 0, .int .i64 0]
theorem at4 {w : World} {g : Nat} {t : TypeId} {a0 a1 a2 a3 : Value} (h : At w g t #[a0, a1, a2, a3]) : (w.cell? ⟨g, 0, none⟩ = some a0 ∧ w.cell? ⟨g, 1, none⟩ = some a1 ∧ w.cell? ⟨g, 2, none⟩ = some a2 ∧ w.cell? ⟨g, 3, none⟩ = some a3) ∧ (∀ i, w.frozen? ⟨g, i, none⟩ = false) ∧ g < w.heap.size :=
  ⟨⟨h.cell 0, h.cell 1, h.cell 2, h.cell 3⟩, h.frozen, h.lt⟩
theorem at10 {w : World} {g : Nat} {t : TypeId} {a0 a1 a2 a3 a4 a5 a6 a7 a8 a9 : Value} (h : At w g t #[a0, a1, a2, a3, a4, a5, a6, a7, a8, a9]) : (w.cell? ⟨g, 0, none⟩ = some a0 ∧ w.cell? ⟨g, 1, none⟩ = some a1 ∧ w.cell? ⟨g, 2, none⟩ = some a2 ∧ w.cell? ⟨g, 3, none⟩ = some a3 ∧ w.cell? ⟨g, 4, none⟩ = some a4 ∧ w.cell? ⟨g, 5, none⟩ = some a5 ∧ w.cell? ⟨g, 6, none⟩ = some a6 ∧ w.cell? ⟨g, 7, none⟩ = some a7 ∧ w.cell? ⟨g, 8, none⟩ = some a8 ∧ w.cell? ⟨g, 9, none⟩ = some a9) ∧ (∀ i, w.frozen? ⟨g, i, none⟩ = false) ∧ g < w.heap.size :=
  ⟨⟨h.cell 0, h.cell 1, h.cell 2, h.cell 3, h.cell 4, h.cell 5, h.cell 6, h.cell 7, h.cell 8, h.cell 9⟩, h.frozen, h.lt⟩

theorem put4 {W : World} {g : Nat} {t : TypeId} {c0 c1 c2 c3 : Value} (h : At W g t #[c0, c1, c2, c3]) (a0 a1 a2 a3 : Value) :
    At ((((W.setCell ⟨g, 0, none⟩ a0).setCell ⟨g, 1, none⟩ a1).setCell ⟨g, 2, none⟩ a2).setCell ⟨g, 3, none⟩ a3) g t #[a0, a1, a2, a3] ∧ Only (fun i => i = g) W ((((W.setCell ⟨g, 0, none⟩ a0).setCell ⟨g, 1, none⟩ a1).setCell ⟨g, 2, none⟩ a2).setCell ⟨g, 3, none⟩ a3) := by
  have h0 : At (W.setCell ⟨g, 0, none⟩ a0) g t #[a0, c1, c2, c3] := h.set 0 a0
  have h1 : At ((W.setCell ⟨g, 0, none⟩ a0).setCell ⟨g, 1, none⟩ a1) g t #[a0, a1, c2, c3] := h0.set 1 a1
  have h2 : At (((W.setCell ⟨g, 0, none⟩ a0).setCell ⟨g, 1, none⟩ a1).setCell ⟨g, 2, none⟩ a2) g t #[a0, a1, a2, c3] := h1.set 2 a2
  have h3 : At ((((W.setCell ⟨g, 0, none⟩ a0).setCell ⟨g, 1, none⟩ a1).setCell ⟨g, 2, none⟩ a2).setCell ⟨g, 3, none⟩ a3) g t #[a0, a1, a2, a3] := h2.set 3 a3
  exact ⟨h3, (((((Only.refl (fun i => i = g) W).set (p := ⟨g, 0, none⟩) (.inl rfl) a0).set (p := ⟨g, 1, none⟩) (.inl rfl) a1).set (p := ⟨g, 2, none⟩) (.inl rfl) a2).set (p := ⟨g, 3, none⟩) (.inl rfl) a3)⟩
theorem put10 {W : World} {g : Nat} {t : TypeId} {c0 c1 c2 c3 c4 c5 c6 c7 c8 c9 : Value} (h : At W g t #[c0, c1, c2, c3, c4, c5, c6, c7, c8, c9]) (a0 a1 a2 a3 a4 a5 a6 a7 a8 a9 : Value) :
    At ((((((((((W.setCell ⟨g, 0, none⟩ a0).setCell ⟨g, 1, none⟩ a1).setCell ⟨g, 2, none⟩ a2).setCell ⟨g, 3, none⟩ a3).setCell ⟨g, 4, none⟩ a4).setCell ⟨g, 5, none⟩ a5).setCell ⟨g, 6, none⟩ a6).setCell ⟨g, 7, none⟩ a7).setCell ⟨g, 8, none⟩ a8).setCell ⟨g, 9, none⟩ a9) g t #[a0, a1, a2, a3, a4, a5, a6, a7, a8, a9] ∧ Only (fun i => i = g) W ((((((((((W.setCell ⟨g, 0, none⟩ a0).setCell ⟨g, 1, none⟩ a1).setCell ⟨g, 2, none⟩ a2).setCell ⟨g, 3, none⟩ a3).setCell ⟨g, 4, none⟩ a4).setCell ⟨g, 5, none⟩ a5).setCell ⟨g, 6, none⟩ a6).setCell ⟨g, 7, none⟩ a7).setCell ⟨g, 8, none⟩ a8).setCell ⟨g, 9, none⟩ a9) := by
  have h0 : At (W.setCell ⟨g, 0, none⟩ a0) g t #[a0, c1, c2, c3, c4, c5, c6, c7, c8, c9] := h.set 0 a0
  have h1 : At ((W.setCell ⟨g, 0, none⟩ a0).setCell ⟨g, 1, none⟩ a1) g t #[a0, a1, c2, c3, c4, c5, c6, c7, c8, c9] := h0.set 1 a1
  have h2 : At (((W.setCell ⟨g, 0, none⟩ a0).setCell ⟨g, 1, none⟩ a1).setCell ⟨g, 2, none⟩ a2) g t #[a0, a1, a2, c3, c4, c5, c6, c7, c8, c9] := h1.set 2 a2
  have h3 : At ((((W.setCell ⟨g, 0, none⟩ a0).setCell ⟨g, 1, none⟩ a1).setCell ⟨g, 2, none⟩ a2).setCell ⟨g, 3, none⟩ a3) g t #[a0, a1, a2, a3, c4, c5, c6, c7, c8, c9] := h2.set 3 a3
  have h4 : At (((((W.setCell ⟨g, 0, none⟩ a0).setCell ⟨g, 1, none⟩ a1).setCell ⟨g, 2, none⟩ a2).setCell ⟨g, 3, none⟩ a3).setCell ⟨g, 4, none⟩ a4) g t #[a0, a1, a2, a3, a4, c5, c6, c7, c8, c9] := h3.set 4 a4
  have h5 : At ((((((W.setCell ⟨g, 0, none⟩ a0).setCell ⟨g, 1, none⟩ a1).setCell ⟨g, 2, none⟩ a2).setCell ⟨g, 3, none⟩ a3).setCell ⟨g, 4, none⟩ a4).setCell ⟨g, 5, none⟩ a5) g t #[a0, a1, a2, a3, a4, a5, c6, c7, c8, c9] := h4.set 5 a5
  have h6 : At (((((((W.setCell ⟨g, 0, none⟩ a0).setCell ⟨g, 1, none⟩ a1).setCell ⟨g, 2, none⟩ a2).setCell ⟨g, 3, none⟩ a3).setCell ⟨g, 4, none⟩ a4).setCell ⟨g, 5, none⟩ a5).setCell ⟨g, 6, none⟩ a6) g t #[a0, a1, a2, a3, a4, a5, a6, c7, c8, c9] := h5.set 6 a6
  have h7 : At ((((((((W.setCell ⟨g, 0, none⟩ a0).setCell ⟨g, 1, none⟩ a1).setCell ⟨g, 2, none⟩ a2).setCell ⟨g, 3, none⟩ a3).setCell ⟨g, 4, none⟩ a4).setCell ⟨g, 5, none⟩ a5).setCell ⟨g, 6, none⟩ a6).setCell ⟨g, 7, none⟩ a7) g t #[a0, a1, a2, a3, a4, a5, a6, a7, c8, c9] := h6.set 7 a7
  have h8 : At (((((((((W.setCell ⟨g, 0, none⟩ a0).setCell ⟨g, 1, none⟩ a1).setCell ⟨g, 2, none⟩ a2).setCell ⟨g, 3, none⟩ a3).setCell ⟨g, 4, none⟩ a4).setCell ⟨g, 5, none⟩ a5).setCell ⟨g, 6, none⟩ a6).setCell ⟨g, 7, none⟩ a7).setCell ⟨g, 8, none⟩ a8) g t #[a0, a1, a2, a3, a4, a5, a6, a7, a8, c9] := h7.set 8 a8
  have h9 : At ((((((((((W.setCell ⟨g, 0, none⟩ a0).setCell ⟨g, 1, none⟩ a1).setCell ⟨g, 2, none⟩ a2).setCell ⟨g, 3, none⟩ a3).setCell ⟨g, 4, none⟩ a4).setCell ⟨g, 5, none⟩ a5).setCell ⟨g, 6, none⟩ a6).setCell ⟨g, 7, none⟩ a7).setCell ⟨g, 8, none⟩ a8).setCell ⟨g, 9, none⟩ a9) g t #[a0, a1, a2, a3, a4, a5, a6, a7, a8, a9] := h8.set 9 a9
  exact ⟨h9, (((((((((((Only.refl (fun i => i = g) W).set (p := ⟨g, 0, none⟩) (.inl rfl) a0).set (p := ⟨g, 1, none⟩) (.inl rfl) a1).set (p := ⟨g, 2, none⟩) (.inl rfl) a2).set (p := ⟨g, 3, none⟩) (.inl rfl) a3).set (p := ⟨g, 4, none⟩) (.inl rfl) a4).set (p := ⟨g, 5, none⟩) (.inl rfl) a5).set (p := ⟨g, 6, none⟩) (.inl rfl) a6).set (p := ⟨g, 7, none⟩) (.inl rfl) a7).set (p := ⟨g, 8, none⟩) (.inl rfl) a8).set (p := ⟨g, 9, none⟩) (.inl rfl) a9)⟩

set_option maxRecDepth 100000 in
set_option maxHeartbeats 1000000 in
theorem rcall_any {r : RV} {s : St} (op : Int) (w : World) (h : BookIn w r s) (hs : s.ops.length ≤ 4096) :
    Calls Tryz.prog 119 #[r.book s, .int .i64 op] w fun e w' => e = .returned (.tuple #[(s.call op).v, .int .i64 (errNo (s.callOf op).isSome)]) ∧ Below w.heap.size w w' := by
  have H := Lib.hid h
  clear h
  have A0 := (At.new w 43 (r.bcells s)).alloc (.cells zero4 28)
  have A1 := At.new1 w (.cells (r.bcells s) 43) 28 zero4
  go_enter Tryz.func119, Tryz.ntmps119
  go_upto_region 2 with (go_at_call 137; refine (rfind_any op _ (H.out.below (below_twice w _ _)) hs).mono ?_; rintro e w1 ⟨v, rfl, hf, hb1⟩)
  have K0 := A0.below' hb1
  have K1 := A1.below' hb1
  have hs1 := hb1.size
  simp at hs1
  have B1 : Below w.heap.size w w1 := (below_twice w _ _).trans (hb1.mono (by simp; omega))
  obtain ⟨⟨b0, b1, b2, b3, b4, b5, b6, b7, b8, b9⟩, bf, bl⟩ := at10 K0
  obtain ⟨⟨z0, z1, z2, z3⟩, zf, zl⟩ := at4 K1
  clear hb1 A0 A1 b0 b1 b2 b3 b4 b5 b6 b7 b9 bf
  rcases hf with ⟨i, c, rfl, hi, hl⟩ | ⟨rfl, hl⟩
  · obtain ⟨b, o, hao, lb, hcell⟩ := row_read (f := opRow) (c := 5) (fun _ => rfl) (by decide) (H.out.below B1).os hi
    have q1 := hcell 1 _ rfl
    have q2 := hcell 2 _ rfl
    have q3 := hcell 3 _ rfl
    have q4 := hcell 4 _ rfl
    have hlt : i < s.ops.length := (List.getElem?_eq_some_iff.1 hi).1
    have HC := Lib.hid (show s.call op = c ∧ (s.callOf op).isSome = true by unfold St.call St.callOf; rw [hl]; exact ⟨rfl, rfl⟩)
    have HB1 := Lib.hid B1
    clear hcell hi hl K0
    rw [hao] at b8
    go_wp2_with fail
    exact bodyPost_ret (v := .tuple #[.agg #[.int .i64 c.kind, .int .u64 c.key, .int .u64 c.val, .int .i64 c.limit], .int .i64 0]) (res_cell_tmp (fn := Tryz.f119) Tryz.results119 _ _ (w.heap.size + 1) _ _ rfl (put4 K1 _ _ _ _).1 Tryz.underlying28 rfl (by kernel_rfl)) rfl ⟨by rw [HC.out.1, HC.out.2]; rfl, HB1.out.trans ((put4 K1 _ _ _ _).2.below (by have := HB1.out.size; omega) fun i hi hn => by omega)⟩
  · have HC := Lib.hid (show s.call op = GCall.none_ ∧ (s.callOf op).isSome = false by unfold St.call St.callOf; rw [hl]; exact ⟨rfl, rfl⟩)
    have HB1 := Lib.hid B1
    clear hl K0
    go_wp2_with fail
    exact bodyPost_ret (v := .tuple #[.agg #[.int .i64 0, .int .u64 0, .int .u64 0, .int .i64 0], .int .i64 4]) (res_cell_tmp (fn := Tryz.f119) Tryz.results119 _ _ (w.heap.size + 1) _ _ rfl (put4 K1 _ _ _ _).1 Tryz.underlying28 rfl (by kernel_rfl)) rfl ⟨by rw [HC.out.1, HC.out.2]; rfl, HB1.out.trans ((put4 K1 _ _ _ _).2.below (by have := HB1.out.size; omega) fun i hi hn => by omega)⟩

end Go.Proofs.YtccmjljlfgbicaaGreat
