/- A walk and acts that come in: their cells. -/
import Derived.Test.YtccmjljlfgbicaaOpen
import Derived.Test.YtccmjljlfgbicaaWalkE
namespace Go.Proofs.Ytccmjljlfgbicaa
open Go.Joins Go.ChangeShapes Go.WideShapes Go.ChangeAt Go.RowKit Go.Deep

section
variable {H : Type} {enc : TypeId × Value → H} {P : Program}
/-- A struct of fields of a cell each, by value: its cells. -/
theorem open_aggN {w : World} {base : Nat} {spare : Nat → Bool} {held : Bool} {r : Reach} {b0 : Nat} {t : TypeId} {fs : Array Field} {v : Value} {d : DataW H} {p : List MemPlace} (hs : P.underlying t = some (.struct fs)) (hone : oneCellFields P fs = true) (hC : P.cellsOf t = fs.size)
    (hv : Value.okWide P w r b0 t v) (h : DataW.Trod enc P w base spare held t v d p) :
    ∃ cs : Array Value, v = .agg cs ∧ cs.size = fs.size ∧ ∀ (j : Nat) (f : Field), fs[j]? = some f → ∃ u y m, cs[j]? = some u ∧ DataW.trod enc P w base spare held m f.type [u] = some y := by
  obtain ⟨cs, rfl, hsz⟩ := okWide_struct hs hv
  obtain ⟨fuel, hf⟩ := h
  obtain ⟨xs, m, _, _, hl, hxl, hg⟩ := DataW.trod_struct hs hf
  refine ⟨cs, rfl, hsz.trans hC, fun j f hj => ?_⟩
  obtain ⟨ho, h1⟩ := hone_of hone j f hj
  have hjc : j < fs.size := (Array.getElem?_eq_some_iff.1 hj).1
  have hjl : j < cs.toList.length := by simp; omega
  obtain ⟨y, hy⟩ : ∃ y, xs[j]? = some y := ⟨_, List.getElem?_eq_getElem (by omega)⟩
  obtain ⟨u, hu⟩ : ∃ u, cs.toList[j]? = some u := ⟨_, List.getElem?_eq_getElem hjl⟩
  have hd : (cs.toList.drop j).take 1 = [u] := by
    rw [List.drop_eq_getElem_cons hjl]
    rw [List.getElem?_eq_getElem hjl] at hu
    injection hu with hu
    rw [hu]; rfl
  have h2 := hg j f hj
  rw [show (Value.agg cs).cells = cs from rfl, ho, h1, hd, hy] at h2
  exact ⟨u, y, m, by simpa using hu, h2⟩
end
theorem array10 {α : Type} {cs : Array α} (h : cs.size = 10) : ∃ c0 c1 c2 c3 c4 c5 c6 c7 c8 c9, cs = #[c0, c1, c2, c3, c4, c5, c6, c7, c8, c9] := by
  obtain ⟨l⟩ := cs
  match l, h with
  | [c0, c1, c2, c3, c4, c5, c6, c7, c8, c9], _ => exact ⟨c0, c1, c2, c3, c4, c5, c6, c7, c8, c9, rfl⟩

section
variable {H : Type} {enc : TypeId × Value → H} {w : World} {base : Nat} {spare : Nat → Bool} {held : Bool}
set_option maxRecDepth 100000 in
/-- A walk that comes in. -/
theorem open_walk {r : Reach} {b0 : Nat} {v : Value} {d : DataW H} {p : List MemPlace} (hv : Value.okWide Try.prog w r b0 54 v) (h : DataW.Trod enc Try.prog w base spare held 54 v d p) :
    ∃ x : Walk, v = x.val ∧ (0 ≤ x.next ∧ x.next ≤ 18446744073709551615) := by
  obtain ⟨cs, rfl, hsz, hg⟩ := open_aggN Try.underlying54 (by kernel_rfl) (by kernel_rfl) hv h
  obtain ⟨c0, c1, c2, c3, c4, c5, c6, c7, c8, c9, rfl⟩ := array10 hsz
  obtain ⟨v0, y0, _, e0, t0⟩ := hg 0 _ rfl
  obtain ⟨v1, y1, _, e1, t1⟩ := hg 1 _ rfl
  obtain ⟨v2, y2, _, e2, t2⟩ := hg 2 _ rfl
  obtain ⟨v3, y3, _, e3, t3⟩ := hg 3 _ rfl
  obtain ⟨v4, y4, _, e4, t4⟩ := hg 4 _ rfl
  obtain ⟨v5, y5, _, e5, t5⟩ := hg 5 _ rfl
  obtain ⟨v6, y6, _, e6, t6⟩ := hg 6 _ rfl
  obtain ⟨v7, y7, _, e7, t7⟩ := hg 7 _ rfl
  obtain ⟨v8, y8, _, e8, t8⟩ := hg 8 _ rfl
  obtain ⟨v9, y9, _, e9, t9⟩ := hg 9 _ rfl
  cases e0; cases e1; cases e2; cases e3; cases e4; cases e5; cases e6; cases e7; cases e8; cases e9
  obtain ⟨n0, k0, _, w0⟩ := DataW.trod_int Try.underlying26 t0
  obtain ⟨n1, k1, _, w1⟩ := DataW.trod_int Try.underlying3 t1
  obtain ⟨n2, k2, _, w2⟩ := DataW.trod_int Try.underlying3 t2
  obtain ⟨n3, k3, _, w3⟩ := DataW.trod_int Try.underlying3 t3
  obtain ⟨n4, k4, _, w4⟩ := DataW.trod_int Try.underlying3 t4
  obtain ⟨n5, k5, _, w5⟩ := DataW.trod_int Try.underlying26 t5
  obtain ⟨n6, k6, _, w6⟩ := DataW.trod_int Try.underlying3 t6
  obtain ⟨n7, k7, _, w7⟩ := DataW.trod_int Try.underlying3 t7
  obtain ⟨n8, k8, _⟩ := DataW.trod_bool Try.underlying4 t8
  obtain ⟨n9, k9, _⟩ := DataW.trod_bool Try.underlying4 t9
  injection k0 with k0; injection k1 with k1; injection k2 with k2; injection k3 with k3; injection k4 with k4
  injection k5 with k5; injection k6 with k6; injection k7 with k7; injection k8 with k8; injection k9 with k9
  subst k0; subst k1; subst k2; subst k3; subst k4; subst k5; subst k6; subst k7; subst k8; subst k9
  exact ⟨⟨n0, n1, n2, n3, n4, n5, n6, n7, n8, n9⟩, rfl, u64_of_wf w5⟩
end

/-- An act, and its cells. -/
structure GAct where
  kind : Int
  n : Int
  op : Int
  old : Int
  w : Int
def GAct.cells (a : GAct) : List Value := [.int .u8 a.kind, .int .i64 a.n, .int .u16 a.op, .int .u64 a.old, .int .u64 a.w]
abbrev GAct.v (a : GAct) : Value := .agg #[.int .u8 a.kind, .int .i64 a.n, .int .u16 a.op, .int .u64 a.old, .int .u64 a.w]
def GAct.fits (a : GAct) : Prop := (0 ≤ a.kind ∧ a.kind ≤ 255) ∧ (0 ≤ a.old ∧ a.old ≤ 18446744073709551615) ∧ (0 ≤ a.w ∧ a.w ≤ 18446744073709551615)
abbrev actsV (l : List GAct) : List Value := l.flatMap GAct.cells
theorem actsV_get {l : List GAct} {n : Nat} {i : GAct} (h : l[n]? = some i) : (actsV l)[n * 5]? = some (.int .u8 i.kind) ∧ (actsV l)[n * 5 + 1]? = some (.int .i64 i.n) ∧ (actsV l)[n * 5 + 2]? = some (.int .u16 i.op) ∧ (actsV l)[n * 5 + 3]? = some (.int .u64 i.old) ∧ (actsV l)[n * 5 + 4]? = some (.int .u64 i.w) := by
  induction l generalizing n with
  | nil => simp at h
  | cons a l ih =>
    cases n with
    | zero =>
      simp at h
      subst h
      exact ⟨rfl, rfl, rfl, rfl, rfl⟩
    | succ n =>
      simp at h
      have hc : a.cells.length = 5 := rfl
      have go : ∀ j, (actsV (a :: l))[(n + 1) * 5 + j]? = (actsV l)[n * 5 + j]? := by
        intro j
        show (a.cells ++ actsV l)[(n + 1) * 5 + j]? = _
        rw [List.getElem?_append_right (by omega), hc]
        congr 1
        omega
      obtain ⟨i0, i1, i2, i3, i4⟩ := ih h
      exact ⟨(go 0).trans i0, (go 1).trans i1, (go 2).trans i2, (go 3).trans i3, (go 4).trans i4⟩
theorem act_read {w : World} {ao : Option Addr} {l : List GAct} {n : Nat} {i : GAct} (h : ReadAt w ao (actsV l)) (hi : l[n]? = some i) : ∃ b o, ao = some ⟨b, o, none⟩ ∧ b < w.heap.size ∧
    w.cell? ⟨b, o + n * 5, none⟩ = some (.int .u8 i.kind) ∧ w.cell? ⟨b, o + n * 5 + 1, none⟩ = some (.int .i64 i.n) ∧ w.cell? ⟨b, o + n * 5 + 2, none⟩ = some (.int .u16 i.op) ∧ w.cell? ⟨b, o + n * 5 + 3, none⟩ = some (.int .u64 i.old) ∧ w.cell? ⟨b, o + n * 5 + 4, none⟩ = some (.int .u64 i.w) := by
  obtain ⟨i0, i1, i2, i3, i4⟩ := actsV_get hi
  obtain ⟨b, o, h1, h2⟩ := h _ _ i0
  have go : ∀ j u, (actsV l)[n * 5 + j]? = some u → w.cell? ⟨b, o + n * 5 + j, none⟩ = some u := by
    intro j u hu
    obtain ⟨b', o', h3, h4⟩ := h _ _ hu
    rw [h1] at h3
    injection h3 with h3
    injection h3 with e1 e2
    subst e1 e2
    rw [Nat.add_assoc]; exact h4
  exact ⟨b, o, h1, World.block_lt_of_cell? w _ h2, h2, go 1 _ i1, go 2 _ i2, go 3 _ i3, go 4 _ i4⟩

section
variable {H : Type} {enc : TypeId × Value → H} {w : World} {base : Nat} {spare : Nat → Bool} {held : Bool}
theorem open_acts {fuel : Nat} {v : Value} {x : DataW H × List MemPlace} (h : DataW.trod enc Try.prog w base spare held fuel 29 [v] = some x) :
    ∃ (ao : Option Addr) (l : List GAct) (cap : Nat), v = .slice ao l.length cap ∧ ReadAt w ao (actsV l) ∧ ∀ i ∈ l, i.fits := by
  rcases open_slice Try.underlying29 h with ⟨hv, _⟩ | ⟨a, len, cap, m, k, D, Pl, hv, _, hlc, _, hm, _, hf⟩
  · injection hv with hv
    exact ⟨none, [], 0, hv, fun j u hu => by simp [actsV] at hu, fun i hi => by cases hi⟩
  · injection hv with hv
    have hlm : len ≤ m := by rw [hm]; split <;> omega
    obtain ⟨l, hl, hp⟩ := choose_list (n := len) (P := fun i (it : GAct) => it.fits ∧ ∀ j u, it.cells[j]? = some u → w.cell? (a.add (i * 5 + j)) = some u) (by
      intro i hi
      obtain ⟨cs, hcs, htr⟩ := hf i (by omega)
      rw [show Try.prog.cellsOf 44 = 5 by kernel_rfl] at hcs
      have hg := fun (j : Nat) (f : Field) (hj : _) => field_at (j := j) (f := f) Try.underlying44 (by kernel_rfl) rfl hcs htr hj
      obtain ⟨v0, y0, _, c0, t0⟩ := hg 0 _ rfl
      obtain ⟨v1, y1, _, c1, t1⟩ := hg 1 _ rfl
      obtain ⟨v2, y2, _, c2, t2⟩ := hg 2 _ rfl
      obtain ⟨v3, y3, _, c3, t3⟩ := hg 3 _ rfl
      obtain ⟨v4, y4, _, c4, t4⟩ := hg 4 _ rfl
      rw [add_add] at c0 c1 c2 c3 c4
      obtain ⟨n0, e0, _, w0⟩ := DataW.trod_int Try.underlying5 t0
      obtain ⟨n1, e1, _, w1⟩ := DataW.trod_int Try.underlying3 t1
      obtain ⟨n2, e2, _, w2⟩ := DataW.trod_int Try.underlying42 t2
      obtain ⟨n3, e3, _, w3⟩ := DataW.trod_int Try.underlying26 t3
      obtain ⟨n4, e4, _, w4⟩ := DataW.trod_int Try.underlying26 t4
      injection e0 with e0; injection e1 with e1; injection e2 with e2; injection e3 with e3; injection e4 with e4
      subst e0; subst e1; subst e2; subst e3; subst e4
      refine ⟨⟨n0, n1, n2, n3, n4⟩, ⟨u8_of_wf w0, u64_of_wf w3, u64_of_wf w4⟩, ?_⟩
      intro j u hu
      match j, hu with
      | 0, hu => cases hu; exact c0
      | 1, hu => cases hu; exact c1
      | 2, hu => cases hu; exact c2
      | 3, hu => cases hu; exact c3
      | 4, hu => cases hu; exact c4
      | j + 5, hu => simp [GAct.cells] at hu)
    refine ⟨some a, l, cap, by rw [hl]; exact hv, readAt_rows (f := GAct.cells) (c := 5) (fun x => rfl) (by decide) fun i x hx => (hp i x hx).2, ?_⟩
    intro it hit
    obtain ⟨i, hi⟩ := List.getElem?_of_mem hit
    exact (hp i it hi).1
set_option maxRecDepth 100000 in
theorem open_acts_arg {r : Reach} {b0 : Nat} {v : Value} {d : DataW H} {p : List MemPlace} (hv : Value.okWide Try.prog w r b0 29 v) (h : DataW.Trod enc Try.prog w base spare held 29 v d p) :
    ∃ (ao : Option Addr) (l : List GAct) (cap : Nat), v = .slice ao l.length cap ∧ ReadAt w ao (actsV l) ∧ ∀ i ∈ l, i.fits := by
  obtain ⟨a, len, cap, rfl⟩ := okWide_slice Try.underlying29 hv
  obtain ⟨fuel, hf⟩ := h
  exact open_acts hf
end
end Go.Proofs.Ytccmjljlfgbicaa
