/- Sets: maps from integers to true, in memory. -/
import Derived.Test.YtccmjljlfgbicaaBook
import Derived.MapFrom
namespace Go.Proofs.Ytccmjljlfgbicaa
open Go.ChangeShapes Go.WideShapes Go.ChangeAt Go.RowKit

def setEntry (ik : IntKind) (x : Int × Nat) : MapEntry := { key := .int ik x.1, val := .bool true, born := x.2 }
def setMap (ik : IntKind) (es : List Int) : Array MapEntry := (es.zipIdx.map (setEntry ik)).toArray
/-- Block g is a set. -/
def SetAt (w : World) (g : Nat) (ik : IntKind) (es : List Int) : Prop := w.heap[g]? = some (.map (setMap ik es) es.length)
/-- One more in a set. -/
def addS (es : List Int) (n : Int) : List Int := if n ∈ es then es else es ++ [n]
theorem mem_addS {es : List Int} {n m : Int} : m ∈ addS es n ↔ m ∈ es ∨ m = n := by
  unfold addS
  split
  · rename_i h
    constructor
    · exact .inl
    · rintro (h1 | rfl)
      · exact h1
      · exact h
  · simp

section
variable {w w' : World} {g : Nat} {ik : IntKind} {es : List Int}
theorem SetAt.lt (h : SetAt w g ik es) : g < w.heap.size := by
  rcases Nat.lt_or_ge g w.heap.size with hlt | hge
  · exact hlt
  · unfold SetAt at h; rw [Array.getElem?_eq_none hge] at h; cases h
theorem SetAt.same (h : SetAt w g ik es) (e : w'.heap[g]? = w.heap[g]?) : SetAt w' g ik es := e.trans h
theorem SetAt.only {S : Nat → Prop} (h : SetAt w g ik es) (ho : Only S w w') (hs : ¬ S g) : SetAt w' g ik es := (ho.block g h.lt hs).trans h
theorem SetAt.below (h : SetAt w g ik es) (hb : Below w.heap.size w w') : SetAt w' g ik es := (hb.block g h.lt).trans h
end

theorem SetAt.new (w : World) (ik : IntKind) : SetAt (w.alloc (.map #[] 0)) w.heap.size ik [] := heap_alloc_new w _
theorem SetAt.alloc {w : World} {g : Nat} {ik : IntKind} {es : List Int} (h : SetAt w g ik es) (o : Obj) : SetAt (w.alloc o) g ik es := (Below.heap_alloc w o g h.lt).trans h
theorem setFind (ik : IntKind) (k : Int) : ∀ (es : List Int) (i : Nat), ∃ r, Instr.findNow (.int ik) (.int ik k) ((es.zipIdx i).map (setEntry ik)) i = some r ∧
    ((k ∈ es ∧ ∃ j, r = some (i + j, .bool true) ∧ es[j]? = some k) ∨ (k ∉ es ∧ r = none))
  | [], i => ⟨none, rfl, .inr ⟨by simp, rfl⟩⟩
  | a :: es, i => by
    rw [List.zipIdx_cons, List.map_cons]
    by_cases h : k = a
    · refine ⟨some (i, .bool true), ?_, .inl ⟨by simp [h], 0, rfl, by simp [h]⟩⟩
      simp [Instr.findNow, Instr.sameNow, setEntry, h]
    · have h' : (k == a) = false := by rw [beq_eq_false_iff_ne]; exact h
      obtain ⟨r, h1, h2⟩ := setFind ik k es (i + 1)
      refine ⟨r, ?_, ?_⟩
      · simp only [Instr.findNow, Instr.sameNow, setEntry, h', if_true]
        exact h1
      · rcases h2 with ⟨a1, j, a2, a3⟩ | ⟨a1, a2⟩
        · exact .inl ⟨by simp [a1], j + 1, by rw [a2]; congr 2; omega, by simpa using a3⟩
        · exact .inr ⟨by simp [h, a1], a2⟩

section
variable {P : Program} {ik : IntKind}
theorem run_findSet {kt : TypeId} (ht : P.underlying kt = some (.int ik)) (k : Int) (es : List Int) (w : World) :
    ∃ r, (Instr.findKey kt (.int ik k) (setMap ik es).toList).run P w = .ok r w ∧ ((k ∈ es ∧ ∃ j, r = some (j, .bool true) ∧ es[j]? = some k) ∨ (k ∉ es ∧ r = none)) := by
  obtain ⟨r, h1, h2⟩ := setFind ik k es 0
  have e : (setMap ik es).toList = (es.zipIdx 0).map (setEntry ik) := by simp [setMap]
  refine ⟨r, ?_, by simpa using h2⟩
  rw [e]
  simp only [Instr.findKey]
  simp [run_underlying ht, h1]
theorem run_ckS {kt : TypeId} (ht : P.underlying kt = some (.int ik)) (e : Bool) (k : Int) (w : World) : (Instr.checkKey e 10000 kt (.int ik k)).run P w = .ok () w :=
  MapKept.run_checkKey ht (by simp [MapKept.IsKey]) e 9999
theorem run_has {mt kt et : TypeId} (hm : P.underlying mt = some (.map kt et)) (ht : P.underlying kt = some (.int ik)) {w : World} {g : Nat} {es : List Int} (hg : SetAt w g ik es) (k : Int) (hz : ∀ w, (zeroValue et).run P w = .ok (.bool false) w) :
    (Instr.lookup mt (.map (some g)) (.int ik k) false).run P w = .ok (.bool (decide (k ∈ es))) w := by
  obtain ⟨r, hr, hrl⟩ := run_findSet ht k es w
  unfold SetAt at hg
  rcases hrl with ⟨h1, j, rfl, h3⟩ | ⟨h1, rfl⟩
  · simp [Instr.lookup, run_underlying hm, MapKept.run_getObj_map hg, run_ckS ht, hr, h1]
  · simp [Instr.lookup, run_underlying hm, MapKept.run_getObj_map hg, run_ckS ht, hr, hz, h1]
theorem setMap_modify {es : List Int} {j : Nat} {k : Int} (h : es[j]? = some k) : (setMap ik es).modify j (fun e => { e with key := .int ik k, val := .bool true }) = setMap ik es := by
  apply Array.ext_getElem?
  intro i
  rw [Array.getElem?_modify]
  split
  · rename_i e
    subst e
    have : (setMap ik es)[j]? = some (setEntry ik (k, j)) := by simp [setMap, h]
    rw [this]
    rfl
  · rfl
theorem run_add {mt kt et : TypeId} (hm : P.underlying mt = some (.map kt et)) (ht : P.underlying kt = some (.int ik)) {w : World} {g : Nat} {es : List Int} (hg : SetAt w g ik es) (k : Int) :
    (Instr.mapUpdate mt (.map (some g)) (.int ik k) (.bool true)).run P w = .ok () (putObj w g (.map (setMap ik (addS es k)) (addS es k).length)) := by
  obtain ⟨r, hr, hrl⟩ := run_findSet ht k es w
  unfold SetAt at hg
  rcases hrl with ⟨h1, j, rfl, h3⟩ | ⟨h1, rfl⟩
  · have hk : (setMap ik es)[j]? = some (setEntry ik (k, j)) := by simp [setMap, h3]
    have hst : ∀ w, (Instr.keyThatStays (.int ik k) (.int ik k)).run P w = .ok (.int ik k) w := fun w => MapKept.run_keyThatStays (d := .int ik) (by simp [MapKept.IsKey])
    have ea : addS es k = es := if_pos h1
    rw [ea]
    simp [Instr.mapUpdate, run_underlying hm, MapKept.run_getObj_map hg, run_ckS ht, hr, hk, setEntry, hst, setMap_modify h3, putObj, MapKept.run_setObj_map _ hg]
  · have e : (setMap ik es).push { key := .int ik k, val := .bool true, born := es.length } = setMap ik (es ++ [k]) := by
      simp [setMap, List.zipIdx_append, setEntry]
    have ea : addS es k = es ++ [k] := if_neg h1
    rw [ea]
    simp [Instr.mapUpdate, run_underlying hm, MapKept.run_getObj_map hg, run_ckS ht, hr, e, putObj, MapKept.run_setObj_map _ hg]
theorem putObj_set {w : World} {g : Nat} (hg : g < w.heap.size) (es : List Int) : SetAt (putObj w g (.map (setMap ik es) es.length)) g ik es := by
  unfold SetAt putObj
  simp [hg]
theorem putObj_only' {w : World} {g : Nat} (o : Obj) : Only (fun j => j = g) w (putObj w g o) := by
  refine ⟨rfl, rfl, rfl, ?_, fun i hi hn => ?_⟩
  · simp [putObj]
  · have hn' : ¬ i = g := hn
    show (w.heap.setIfInBounds g o)[i]? = _
    rw [Array.getElem?_setIfInBounds_ne (Ne.symm hn')]

variable {ops : Array Oper} {rest : List Oper} {o : Oper} {a : Act} {w : World} {Q : Exit → Act → World → Prop} {K : Act → World → Prop}
theorem op_makeSet (t : TypeId) (ho : o.op = .makeMap t none) (ik : IntKind) (hk : SetAt (w.alloc (.map #[] 0)) w.heap.size ik [] → K (a.put o.dst (.map (some w.heap.size))) (w.alloc (.map #[] 0))) : Oper.wp P o a w K Q := by
  unfold Oper.wp execOp
  have hmm : (Instr.makeMap t none).run P w = .ok (.map (some w.heap.size)) (w.alloc (.map #[] 0)) := rfl
  simp only [ho, Option.map_none, Sem.run_bind, hmm, Sem.run_pure, Result.andThen_ok]
  exact hk (by unfold SetAt; exact heap_alloc_new w _)
theorem op_add (mt : TypeId) (m k x : Operand) (ho : o.op = .mapUpdate mt m k x) {kt et : TypeId} (hm : P.underlying mt = some (.map kt et)) (ht : P.underlying kt = some (.int ik)) (g : Nat) (hx : a.eval m = .map (some g)) (n : Int) (hkk : a.eval k = .int ik n) (hv : a.eval x = .bool true)
    {es : List Int} (hM : SetAt w g ik es) (h : ∀ w', SetAt w' g ik (addS es n) → Only (fun j => j = g) w w' → K (a.put o.dst undef) w') : Oper.wp P o a w K Q := by
  have hr := run_add (P := P) hm ht hM n
  have hn := h _ (putObj_set hM.lt _) (putObj_only' _)
  unfold Oper.wp execOp
  simp only [ho, hx, hkk, hv, Sem.run_bind, hr, Sem.run_pure, Result.andThen_ok]
  exact hn
theorem op_has (mt : TypeId) (m k : Operand) (ho : o.op = .lookup mt m k false) {kt et : TypeId} (hm : P.underlying mt = some (.map kt et)) (ht : P.underlying kt = some (.int ik)) (hz : ∀ w, (zeroValue et).run P w = .ok (.bool false) w) (g : Nat) (hx : a.eval m = .map (some g)) (n : Int) (hkk : a.eval k = .int ik n)
    {es : List Int} (hM : SetAt w g ik es) (h : K (a.put o.dst (.bool (decide (n ∈ es)))) w) : Oper.wp P o a w K Q := by
  have hr := run_has (P := P) hm ht hM n hz
  unfold Oper.wp execOp
  simp only [ho, hx, hkk, Sem.run_bind, hr, Sem.run_pure, Result.andThen_ok]
  exact h
/-- An operation that is wanted, by its own law. -/
theorem wpl_op (hw : Region.wanted o (yielded ops a.tmps) = true) (h : Oper.wp P o a w (fun a' w' => wpList P ops Q rest a' w') Q) : wpList P ops Q (o :: rest) a w := by
  unfold wpList
  rw [if_pos hw]
  exact .inl h
end
end Go.Proofs.Ytccmjljlfgbicaa
