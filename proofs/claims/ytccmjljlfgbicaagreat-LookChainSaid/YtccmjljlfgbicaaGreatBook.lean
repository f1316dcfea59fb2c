/- The book in memory, and the contracts of its questions. -/
import Derived.Test.YtccmjljlfgbicaaGreatCells
namespace Go.Proofs.YtccmjljlfgbicaaGreat
open Go.ChangeShapes Go.WideShapes Go.ChangeAt Go.RowKit

/-- A map's entries, as they were laid. -/
def mkEntry (x : (Int × Value) × Nat) : MapEntry := { key := .int .i64 x.1.1, val := x.1.2, born := x.2 }
def mkMap (es : List (Int × Value)) : Array MapEntry := (es.zipIdx.map mkEntry).toArray
/-- Block g is a map with integers as keys. -/
def MapAt (w : World) (g : Nat) (es : List (Int × Value)) : Prop := w.heap[g]? = some (.map (mkMap es) es.length)

/-- What stands at a key. -/
def look1 {α : Type} (es : List (Int × α)) (k : Int) : Option α := (es.find? (fun p => p.1 == k)).map (·.2)
theorem look1_nil {α : Type} (k : Int) : look1 ([] : List (Int × α)) k = none := rfl
theorem look1_cons {α : Type} (p : Int × α) (es : List (Int × α)) (k : Int) : look1 (p :: es) k = if p.1 = k then some p.2 else look1 es k := by
  unfold look1
  by_cases h : p.1 = k
  · simp [h]
  · have : (p.1 == k) = false := by simpa using h
    simp [this, h]
theorem look1_map {α β : Type} (f : α → β) (es : List (Int × α)) (k : Int) : look1 (es.map fun p => (p.1, f p.2)) k = (look1 es k).map f := by
  induction es with
  | nil => rfl
  | cons p es ih =>
    rw [List.map_cons, look1_cons, look1_cons, ih]
    split <;> rfl
theorem look1_append {α : Type} (es : List (Int × α)) (p : Int × α) (k : Int) : look1 (es ++ [p]) k = (look1 es k).or (if p.1 = k then some p.2 else none) := by
  induction es with
  | nil => rw [List.nil_append, look1_cons, look1_nil]; rfl
  | cons q es ih =>
    rw [List.cons_append, look1_cons, look1_cons, ih]
    split <;> rfl

section
variable {w w' : World} {g : Nat} {es : List (Int × Value)}
theorem MapAt.lt (h : MapAt w g es) : g < w.heap.size := by
  rcases Nat.lt_or_ge g w.heap.size with hlt | hge
  · exact hlt
  · unfold MapAt at h; rw [Array.getElem?_eq_none hge] at h; cases h
theorem MapAt.alloc (h : MapAt w g es) (o : Obj) : MapAt (w.alloc o) g es := (Below.heap_alloc w o g h.lt).trans h
theorem MapAt.drew (h : MapAt w g es) : MapAt w.drew g es := h
theorem MapAt.only {S : Nat → Prop} (h : MapAt w g es) (ho : Only S w w') (hs : ¬ S g) : MapAt w' g es := (ho.block g h.lt hs).trans h
theorem MapAt.far (h : MapAt w g es) {p : Addr} (hp : g ≠ p.block) (u : Value) : MapAt (w.setCell p u) g es := (Below.heap_setCell w p u g hp).trans h
theorem MapAt.ne {g' : Nat} {t' : TypeId} {cs' : Array Value} (h : MapAt w g es) (h' : At w g' t' cs') : g ≠ g' := by
  rintro rfl
  unfold MapAt at h; unfold At at h'
  rw [h] at h'
  cases h'
end

theorem findNow_int (k : Int) : ∀ (es : List (Int × Value)) (i : Nat),
    Instr.findNow (.int .i64) (.int .i64 k) ((es.zipIdx i).map mkEntry) i = some ((es.zipIdx i).findSome? fun x => if x.1.1 = k then some (x.2, x.1.2) else none)
  | [], _ => rfl
  | (a, v) :: es, i => by
    rw [List.zipIdx_cons, List.map_cons]
    by_cases h : a = k
    ·       simp [Instr.findNow, Instr.sameNow, mkEntry, h]
    · have h' : (k == a) = false := by rw [beq_eq_false_iff_ne]; exact fun e => h e.symm
      have := findNow_int k es (i + 1)
      simp [Instr.findNow, Instr.sameNow, mkEntry, h', h]
      simpa [mkEntry] using this

theorem findSome_look (k : Int) : ∀ (es : List (Int × Value)) (i : Nat),
    ((es.zipIdx i).findSome? fun x => if x.1.1 = k then some (x.2, x.1.2) else none).map (·.2) = look1 es k
  | [], _ => rfl
  | (a, v) :: es, i => by
    rw [List.zipIdx_cons, List.findSome?_cons, look1_cons]
    by_cases h : a = k
    · simp [h]
    · simp only [h, if_false]; exact findSome_look k es (i + 1)

section
variable {P : Program}
theorem run_findKey {kt : TypeId} (ht : P.underlying kt = some (.int .i64)) (k : Int) (es : List (Int × Value)) (w : World) :
    ∃ r, (Instr.findKey kt (.int .i64 k) (mkMap es).toList).run P w = .ok r w ∧ r.map (·.2) = look1 es k := by
  have h := findNow_int k es 0
  have e : (mkMap es).toList = (es.zipIdx 0).map mkEntry := by simp [mkMap]
  refine ⟨_, ?_, findSome_look k es 0⟩
  rw [e]
  simp only [Instr.findKey]
  simp [run_underlying ht, h]

theorem run_ck {kt : TypeId} (ht : P.underlying kt = some (.int .i64)) (e : Bool) (k : Int) (w : World) : (Instr.checkKey e 10000 kt (.int .i64 k)).run P w = .ok () w :=
  MapKept.run_checkKey ht (by simp [MapKept.IsKey]) e 9999

theorem run_lookup_in {mt kt et : TypeId} (hm : P.underlying mt = some (.map kt et)) (ht : P.underlying kt = some (.int .i64)) {w : World} {g : Nat} {es : List (Int × Value)} (hg : MapAt w g es) {k : Int} {v : Value} (hl : look1 es k = some v) :
    (Instr.lookup mt (.map (some g)) (.int .i64 k) true).run P w = .ok (.tuple #[v, .bool true]) w := by
  obtain ⟨r, hr, hrl⟩ := run_findKey ht k es w
  rw [hl] at hrl
  obtain ⟨⟨i, v'⟩, rfl, rfl⟩ : ∃ x, r = some x ∧ x.2 = v := by
    cases r with
    | none => cases hrl
    | some x => exact ⟨x, rfl, by simpa using hrl⟩
  unfold MapAt at hg
  simp [Instr.lookup, run_underlying hm, MapKept.run_getObj_map hg, run_ck ht, hr]

theorem run_lookup_out {mt kt et : TypeId} (hm : P.underlying mt = some (.map kt et)) (ht : P.underlying kt = some (.int .i64)) {w : World} {g : Nat} {es : List (Int × Value)} (hg : MapAt w g es) {k : Int} {z : Value} (hz : ∀ w, (zeroValue et).run P w = .ok z w) (hl : look1 es k = none) :
    (Instr.lookup mt (.map (some g)) (.int .i64 k) true).run P w = .ok (.tuple #[z, .bool false]) w := by
  obtain ⟨r, hr, hrl⟩ := run_findKey ht k es w
  rw [hl] at hrl
  obtain rfl : r = none := by
    cases r with
    | none => rfl
    | some x => cases hrl
  unfold MapAt at hg
  simp [Instr.lookup, run_underlying hm, MapKept.run_getObj_map hg, run_ck ht, hr, hz]

/-- A world whose block g is another object. -/
def putObj (w : World) (g : Nat) (o : Obj) : World := { w with heap := w.heap.setIfInBounds g o }

theorem run_update_new {mt kt et : TypeId} (hm : P.underlying mt = some (.map kt et)) (ht : P.underlying kt = some (.int .i64)) {w : World} {g : Nat} {es : List (Int × Value)} (hg : MapAt w g es) {k : Int} (hl : look1 es k = none) (v : Value) :
    (Instr.mapUpdate mt (.map (some g)) (.int .i64 k) v).run P w = .ok () (putObj w g (.map (mkMap (es ++ [(k, v)])) (es.length + 1))) := by
  obtain ⟨r, hr, hrl⟩ := run_findKey ht k es w
  rw [hl] at hrl
  obtain rfl : r = none := by
    cases r with
    | none => rfl
    | some x => cases hrl
  have e : (mkMap es).push { key := .int .i64 k, val := v, born := es.length } = mkMap (es ++ [(k, v)]) := by
    simp [mkMap, List.zipIdx_append, mkEntry]
  unfold MapAt at hg
  simp [Instr.mapUpdate, run_underlying hm, MapKept.run_getObj_map hg, run_ck ht, hr, e, putObj, MapKept.run_setObj_map _ hg]
end

end Go.Proofs.YtccmjljlfgbicaaGreat
