/- Laws for the walk: what is read of a block known whole, and what is laid into it, whole or in part; the world behind a store is told by what it holds. -/
import Derived.Test.YtccmjljlfgbicaaGreatRow
namespace Go.Proofs.YtccmjljlfgbicaaGreat
open Go.ChangeShapes Go.WideShapes Go.ChangeAt Go.RowKit

section
variable {P : Program}
def setsA (cs : Array Value) : Nat → List Value → Array Value
  | _, [] => cs
  | k, v :: vs => setsA (cs.setIfInBounds k v) (k + 1) vs
theorem setsA_eq : ∀ (vs : List Value) (cs : Array Value) (k : Nat), k + vs.length ≤ cs.size → setsA cs k vs = (cs.toList.take k ++ vs ++ cs.toList.drop (k + vs.length)).toArray
  | [], cs, k, _ => by simp [setsA]
  | v :: vs, cs, k, h => by
    simp only [List.length_cons] at h
    rw [setsA, setsA_eq vs _ (k + 1) (by simp; omega)]
    have hk : k < cs.toList.length := by simp; omega
    have e1 : (cs.toList.set k v).take (k + 1) = cs.toList.take k ++ [v] := by
      rw [List.take_succ_eq_append_getElem (by simpa using hk), List.take_set_of_le (Nat.le_refl _), List.getElem_set_self]
    have e2 : (cs.toList.set k v).drop (k + 1 + vs.length) = cs.toList.drop (k + 1 + vs.length) := List.drop_set_of_lt (by omega)
    rw [Array.toList_setIfInBounds, e1, e2]
    simp only [List.length_cons, List.append_assoc, List.singleton_append]
    rw [show k + (vs.length + 1) = k + 1 + vs.length by omega]

theorem run_storeCells_mid (g : Nat) (t : TypeId) (o : Nat) : ∀ (vs : List Value) (i : Nat) (cur : Array Value) (w : World), At w g t cur → o + i + vs.length ≤ cur.size → (∀ v ∈ vs, v.oneCell' = true) →
    ∃ w', (storeCells ⟨g, o, none⟩ vs i).run P w = .ok () w' ∧ At w' g t (setsA cur (o + i) vs) ∧ Only (fun j => j = g) w w'
  | [], i, cur, w, hA, _, _ => ⟨w, rfl, hA, Only.refl _ _⟩
  | v :: vs, i, cur, w, hA, hl, h1 => by
    simp only [List.length_cons] at hl
    have hadd : (⟨g, o, none⟩ : Addr).add i = ⟨g, o + i, none⟩ := Addr.add_lit _ _ _
    have hi : o + i < cur.size := by omega
    have hcell : w.cell? ⟨g, o + i, none⟩ = some cur[o + i] := by rw [hA.cell]; simp [hi]
    have hst : (store ((⟨g, o, none⟩ : Addr).add i) v).run P w = .ok () (w.setCell ⟨g, o + i, none⟩ v) := by
      rw [hadd, run_store P w _ v _ (h1 v (by simp)), hcell]
      simp [hA.frozen]
    obtain ⟨w', e1, e2, e3⟩ := run_storeCells_mid g t o vs (i + 1) (cur.setIfInBounds (o + i) v) (w.setCell ⟨g, o + i, none⟩ v) (hA.set _ v) (by simp; omega) (fun x hx => h1 x (by simp [hx]))
    refine ⟨w', ?_, e2, ((Only.refl (fun j => j = g) w).set (p := ⟨g, o + i, none⟩) (.inl rfl) v).trans e3⟩
    simp only [storeCells, Sem.run_bind, hst, Result.andThen_ok, e1]

variable {ops : Array Oper} {rest : List Oper} {o : Oper} {a : Act} {w : World} {Q : Exit → Act → World → Prop}
/-- Something is laid into a block. -/
theorem wpl_st (hgd : o.guard = none) (ty : TypeId) (x y : Operand) (ho : o.op = .store ty x y) {g i : Nat} {t : TypeId} {cs : Array Value} (cs' : Array Value) (hx : a.eval x = .pointer (some ⟨g, i, none⟩)) (v : Value) (hy : a.eval y = v) (hA : At w g t cs)
    (hi : (P.info? ty).map (·.size) = some v.cells.size) (h1 : v.cells.toList.all (·.oneCell') = true) (hcs : (cs.toList.take i ++ v.cells.toList ++ cs.toList.drop (i + v.cells.size)).toArray = cs') (hb : Nat.ble (i + v.cells.size) cs.size = true)
    (h : ∀ w', At w' g t cs' → Only (fun j => j = g) w w' → wpList P ops Q rest (a.put o.dst undef) w') : wpList P ops Q (o :: rest) a w := by
  have hb' := Nat.le_of_ble_eq_true hb
  obtain ⟨w', e1, e2, e3⟩ := run_storeCells_mid (P := P) g t i v.cells.toList 0 cs w hA (by simpa using hb') (List.all_eq_true.1 h1)
  rw [setsA_eq _ _ _ (by simpa using hb'), Nat.add_zero, Array.length_toList, hcs] at e2
  refine wpList_plain hgd fun K hK => ?_
  have hs : (storeVar ty ⟨g, i, none⟩ v).run P w = .ok () w' := by
    cases hq : P.info? ty with
    | none => simp [hq] at hi
    | some inf =>
      have hsz : v.cells.size = inf.size := by simp [hq] at hi; omega
      simp [storeVar, sizeOf, typeInfo, hq, hsz, e1]
  unfold Oper.wp execOp
  simp only [ho, hx, hy, Instr.storeAt, Instr.sureAddr, Sem.run_bind, Sem.run_pure, Result.andThen_ok, hs]
  exact hK _ _ (h w' e2 e3)
/-- A struct is read out of a block. -/
theorem wpl_ld (hgd : o.guard = none) (ty : TypeId) (x : Operand) (ho : o.op = .load ty x) {g i : Nat} {t : TypeId} {cs : Array Value} (vs : Array Value) (hx : a.eval x = .pointer (some ⟨g, i, none⟩)) (d : TypeDesc) (hA : At w g t cs)
    (hu : P.underlying ty = some d) (hd : (match d with | .struct _ | .array _ _ => true | _ => false) = true) (hi : (P.info? ty).map (·.size) = some vs.size) (hvs : (cs.toList.drop i).take vs.size = vs.toList)
    (h : wpList P ops Q rest (a.put o.dst (.agg vs)) w) : wpList P ops Q (o :: rest) a w := by
  have hl : (loadCells ⟨g, i, none⟩ vs.toList.length).run P w = .ok vs.toList.toArray w :=
    run_loadCells_list (P := P) w ⟨g, i, none⟩ vs.toList (fun j v hv => by
      have hadd : (⟨g, i, none⟩ : Addr).add j = ⟨g, i + j, none⟩ := Addr.add_lit _ _ _
      have hj : j < vs.toList.length := (List.getElem?_eq_some_iff.1 hv).1
      rw [Array.length_toList] at hj
      rw [hadd, hA.cell]
      rw [← hvs, List.getElem?_take_of_lt hj, List.getElem?_drop] at hv
      rwa [Array.getElem?_toList] at hv)
  refine wpList_plain hgd fun K hK => ?_
  have hs : (loadVar ty ⟨g, i, none⟩).run P w = .ok (.agg vs) w := by
    cases hq : P.info? ty with
    | none => simp [hq] at hi
    | some inf =>
      have hsz : inf.size = vs.size := by simpa [hq] using hi
      have hagg : (isAgg ty).run P w = .ok true w := by
        unfold isAgg
        rw [Sem.run_bind, run_underlying hu w]
        cases d <;> simp_all
      simp only [Array.length_toList, Array.toArray_toList] at hl
      simp [loadVar, Sem.run_bind, hagg, sizeOf, typeInfo, hq, hsz, hl]
  unfold Oper.wp execOp
  simp only [ho, hx, Instr.loadAt, Instr.sureAddr, Sem.run_bind, Sem.run_pure, Result.andThen_ok, hs]
  exact hK _ _ h
end
theorem Only.step {S : Nat → Prop} {w w' w'' : World} (h : Only S w w') {g : Nat} (hg : S g ∨ w.heap.size ≤ g) (ho : Only (fun j => j = g) w' w'') : Only S w w'' :=
  ⟨ho.os.trans h.os, ho.tape.trans h.tape, ho.output.trans h.output, Nat.le_trans h.size ho.size, fun i hi hs => (ho.block i (Nat.lt_of_lt_of_le hi h.size) (fun e => by
    subst e
    rcases hg with hg | hg
    · exact hs hg
    · omega)).trans (h.block i hi hs)⟩
end Go.Proofs.YtccmjljlfgbicaaGreat
