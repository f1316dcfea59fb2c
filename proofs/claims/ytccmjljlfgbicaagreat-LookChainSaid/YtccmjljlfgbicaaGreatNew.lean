/- Contracts of what is made anew: cells, a book, a world. -/
import Derived.Test.YtccmjljlfgbicaaGreatWorld2
namespace Go.Proofs.YtccmjljlfgbicaaGreat
open Go.ChangeShapes Go.WideShapes Go.ChangeAt Go.RowKit

theorem made_words (n : Nat) : madeCells #[.int .u64 0] n = wordsOf (List.replicate n 0) := by
  apply Array.ext (by simp [madeCells, wordsOf])
  intro i h1 h2
  simp [madeCells, wordsOf, Nat.mod_one]
theorem made_thr (n : Nat) : madeCells #[.int .i64 0, .int .i64 0, .int .i64 0] (n * 3) = thrCells (List.replicate n ⟨0, 0, 0⟩) := by
  have hl : (List.flatMap Thr.cells (List.replicate n ⟨0, 0, 0⟩)).length = n * 3 := by
    induction n with
    | zero => rfl
    | succ n ih => rw [List.replicate_succ, List.flatMap_cons, List.length_append, ih]; simp [Thr.cells]; omega
  have hall : ∀ v ∈ List.flatMap Thr.cells (List.replicate n ⟨0, 0, 0⟩), v = .int .i64 0 := by
    intro v hv
    obtain ⟨t, ht, hv⟩ := List.mem_flatMap.1 hv
    rw [(List.mem_replicate.1 ht).2] at hv
    simp [Thr.cells] at hv
    exact hv
  apply Array.ext
  · simp [madeCells, thrCells, hl]
  · intro i h1 h2
    have e2 : (thrCells (List.replicate n ⟨0, 0, 0⟩))[i] = .int .i64 0 := hall _ (Array.mem_toList_iff.2 (Array.getElem_mem h2))
    rw [e2]
    have h3 : i % 3 = 0 ∨ i % 3 = 1 ∨ i % 3 = 2 := by omega
    simp only [madeCells, Array.getElem_map, Array.getElem_range, List.size_toArray, List.length_cons, List.length_nil, Nat.zero_add]
    rcases h3 with h3 | h3 | h3 <;> rw [h3] <;> rfl

theorem winfo : (Tryz.prog.info? 166).map (fun i => (i.zero.map Value.cells, i.size, i.bytes)) = some (some #[.int .u64 0], 1, 8) := by kernel_rfl
theorem tinfo : (Tryz.prog.info? 189).map (fun i => (i.zero.map Value.cells, i.size, i.bytes)) = some (some #[.int .i64 0, .int .i64 0, .int .i64 0], 3, 24) := by kernel_rfl
theorem info_of {P : Program} {t : TypeId} {zc : Array Value} {sz by_ : Nat} (h : (P.info? t).map (fun i => (i.zero.map Value.cells, i.size, i.bytes)) = some (some zc, sz, by_)) : ∃ i z, P.info? t = some i ∧ i.zero = some z ∧ z.cells = zc ∧ i.size = sz ∧ i.bytes = by_ := by
  cases hi : P.info? t with
  | none => rw [hi] at h; cases h
  | some i =>
    rw [hi] at h
    simp only [Option.map_some, Option.some.injEq, Prod.mk.injEq] at h
    cases hz : i.zero with
    | none => rw [hz] at h; cases h.1
    | some z => rw [hz] at h; exact ⟨i, z, rfl, hz, by simpa using h.1, h.2.1, h.2.2⟩

theorem At.new1 (w : World) (o : Obj) (t : TypeId) (cs : Array Value) : At ((w.alloc o).alloc (.cells cs t)) (w.heap.size + 1) t cs := by
  have := At.new (w.alloc o) t cs
  rwa [World.size_alloc] at this

set_option maxRecDepth 100000 in
set_option maxHeartbeats 1000000 in
theorem cnew_any (m : Nat) (w : World) (hm : m ≤ 1048576) :
    Calls Tryz.prog 124 #[.int .i64 m] w fun e w' => e = .returned (.pointer (some ⟨w.heap.size + 1, 0, none⟩)) ∧ CellsAt w' (w.heap.size + 1) w.heap.size (List.replicate m 0) 0 ∧ Below w.heap.size w w' := by
  obtain ⟨i, z, hi, hz, hc, hsz, hby⟩ := info_of winfo
  have hrun := run_make (P := Tryz.prog) w 136 166 i z Tryz.underlying136 hi hz .i64 .i64 (m : Int) (m : Int) (by omega) (Int.le_refl _) (by rw [hby]; omega) (by omega)
  rw [hc, hsz, Int.toNat_natCast, Nat.mul_one, made_words] at hrun
  clear hc hsz hby hz hi
  go_enter Tryz.func124, Tryz.ntmps124
  go_wp2
  go_ret
  refine ⟨rfl, ⟨?_, (At.new w _ _).alloc _, by simpa using hm⟩, below2 _ _⟩
  rw [List.length_replicate]
  exact At.new1 w _ _ _

/-- The state of a new world. -/
def St.new (c : Conf) : St := ⟨c, List.replicate (c.nodes + c.ops + c.threads).toNat 0, 0, List.replicate c.threads.toNat ⟨0, 0, 0⟩, [], []⟩

theorem ok_new {c : Conf} (h : c.may = true) : (St.new c).ok := by
  have hb := may_bounds h
  have ho := ops_bounds c
  have hn := nodes_bounds h
  refine ⟨h, ?_, ?_, ?_, ?_, ?_, ?_⟩
  · simp only [St.new, List.length_replicate]; omega
  · simp only [St.new, List.length_replicate]; omega
  · intro x hx; rw [(List.mem_replicate.1 hx).2]; omega
  · intro x hx; rw [(List.mem_replicate.1 hx).2]; simp only [St.new]; omega
  · intro p hp; cases hp
  · intro p hp; cases hp

theorem At.new3 (w : World) (o1 o2 o3 : Obj) (t : TypeId) (cs : Array Value) : At ((((w.alloc o1).alloc o2).alloc o3).alloc (.cells cs t)) (w.heap.size + 1 + 1 + 1) t cs := by
  have := At.new (((w.alloc o1).alloc o2).alloc o3) t cs
  rwa [World.size_alloc, World.size_alloc, World.size_alloc] at this
theorem heap3 (w : World) (o1 o2 o3 o4 : Obj) : ((((w.alloc o1).alloc o2).alloc o3).alloc o4).heap[w.heap.size]? = some o1 ∧ ((((w.alloc o1).alloc o2).alloc o3).alloc o4).heap[w.heap.size + 1]? = some o2 ∧ ((((w.alloc o1).alloc o2).alloc o3).alloc o4).heap[w.heap.size + 1 + 1]? = some o3 := by
  show ((((w.heap.push o1).push o2).push o3).push o4)[w.heap.size]? = some o1 ∧ ((((w.heap.push o1).push o2).push o3).push o4)[w.heap.size + 1]? = some o2 ∧ ((((w.heap.push o1).push o2).push o3).push o4)[w.heap.size + 1 + 1]? = some o3
  refine ⟨?_, ?_, ?_⟩
  · rw [Array.getElem?_push, if_neg (by simp; omega), Array.getElem?_push, if_neg (by simp; omega), Array.getElem?_push, if_neg (by simp), Array.getElem?_push, if_pos rfl]
  · rw [Array.getElem?_push, if_neg (by simp), Array.getElem?_push, if_neg (by simp), Array.getElem?_push, if_pos (by simp)]
  · rw [Array.getElem?_push, if_neg (by simp), Array.getElem?_push, if_pos (by simp)]
theorem below4' (w : World) (o1 o2 o3 o4 : Obj) : Below w.heap.size w ((((w.alloc o1).alloc o2).alloc o3).alloc o4) :=
  ((((Below.refl _ _).alloc (Nat.le_refl _) _).alloc (by simp) _).alloc (by simp; omega) _).alloc (by simp; omega) _

/-- A new book in memory. -/
structure BookAt (w : World) (bb bt bo bn : Nat) (c : Conf) : Prop where
  book : At w bb 163 #[.int .i64 c.threads, .int .i64 c.buckets, .int .i64 c.inserts, .int .i64 c.fuel, .int .i64 c.calls, .slice (some ⟨bt, 0, none⟩) c.threads.toNat c.threads.toNat, .map (some bo), .map (some bn)]
  thr : At w bt 189 (thrCells (List.replicate c.threads.toNat ⟨0, 0, 0⟩))
  ops : MapAt w bo []
  nodes : MapAt w bn []
  two : bo ≠ bn
theorem MapAt.below' {w w' : World} {g : Nat} {es : List (Int × Value)} (h : MapAt w g es) (hb : Below w.heap.size w w') : MapAt w' g es := (hb.block g h.lt).trans h
theorem BookAt.drew {w : World} {bb bt bo bn : Nat} {c : Conf} (h : BookAt w bb bt bo bn c) : BookAt w.drew bb bt bo bn c := ⟨h.book.drew, h.thr.drew, h.ops.drew, h.nodes.drew, h.two⟩
theorem BookAt.keep {w w' : World} {bb bt bo bn : Nat} {c : Conf} (h : BookAt w bb bt bo bn c) (hb : Below w.heap.size w w') : BookAt w' bb bt bo bn c :=
  ⟨h.book.below' hb, h.thr.below' hb, h.ops.below' hb, h.nodes.below' hb, h.two⟩

set_option maxRecDepth 100000 in
set_option maxHeartbeats 2000000 in
theorem bnew_yes (c : Conf) (w : World) (hm : c.may = true) :
    Calls Tryz.prog 123 #[c.val] w fun e w' => ∃ bb bt bo bn, e = .returned (.tuple #[.pointer (some ⟨bb, 0, none⟩), .int .i64 0]) ∧ BookAt w' bb bt bo bn c ∧ (w.heap.size ≤ bb ∧ w.heap.size ≤ bt ∧ w.heap.size ≤ bo ∧ w.heap.size ≤ bn) ∧ Below w.heap.size w w' := by
  obtain ⟨a1, a2, _, _, _, _, _, _, a3, a4⟩ := may_bounds hm
  obtain ⟨i, z, hi, hz, hc, hsz, hby⟩ := info_of tinfo
  have hrun := fun W => run_make (P := Tryz.prog) W 159 189 i z Tryz.underlying159 hi hz .i64 .i64 c.threads c.threads (by omega) (Int.le_refl _) (by rw [hby]; omega) (by omega)
  rw [hc, hsz, made_thr] at hrun
  have hmm := @run_makeMap Tryz.prog
  have HM := Lib.hid hm
  clear hc hsz hby hz hi hm
  go_enter Tryz.func123, Tryz.ntmps123
  go_wp2_with (go_at_call 181; refine (may_yes (c := c) _ HM.out).mono ?_; rintro e w1 ⟨rfl, hb⟩; obtain ⟨g0, g1, g2, g3, g4⟩ := confAt_new hb)
  have hz := hb.size
  simp at hz
  have y0 : w.heap.size < w1.heap.size := by omega
  have y1 : w.heap.size < w1.heap.size + 1 := by omega
  have y2 : w.heap.size < w1.heap.size + 1 + 1 := by omega
  have y3 : w.heap.size < w1.heap.size + 1 + 1 + 1 := by omega
  go_region
  all_goals
    go_wp2
    go_ret2
    obtain ⟨p0, p1, p2⟩ := heap3 w1 _ _ _ _
    exact ⟨_, _, _, _, rfl, ⟨At.new3 _ _ _ _ _ _, by first | exact p0 | exact p1 | exact p2, by first | exact p0 | exact p1 | exact p2, by first | exact p0 | exact p1 | exact p2, by omega⟩, by omega, (below_new hb).trans ((below4' w1 _ _ _ _).mono (by omega)).drew⟩

set_option maxRecDepth 100000 in
set_option maxHeartbeats 2000000 in
theorem bnew_no (c : Conf) (w : World) (hm : c.may = false) :
    Calls Tryz.prog 123 #[c.val] w fun e w' => e = .returned (.tuple #[.pointer none, .int .i64 1]) ∧ Below w.heap.size w w' := by
  have HM := Lib.hid hm
  clear hm
  go_enter Tryz.func123, Tryz.ntmps123
  go_wp2_with (go_at_call 181; refine (may_no (c := c) _ HM.out).mono ?_; rintro e w1 ⟨rfl, hb⟩)
  go_ret2
  exact ⟨rfl, below_new hb⟩

set_option maxRecDepth 100000 in
set_option maxHeartbeats 2000000 in
theorem wnew_no (c : Conf) (w : World) (hm : c.may = false) :
    Calls Tryz.prog 54 #[c.val] w fun e w' => e = .returned (.tuple #[.pointer none, .int .i64 1]) ∧ Below w.heap.size w w' := by
  have HM := Lib.hid hm
  clear hm
  go_enter Tryz.func54, Tryz.ntmps54
  go_wp2_with (go_at_call 123; refine (bnew_no c _ HM.out).mono ?_; rintro e w1 ⟨rfl, hb⟩)
  go_ret2
  exact ⟨rfl, below_new hb⟩

set_option maxRecDepth 100000 in
set_option maxHeartbeats 2000000 in
theorem wnew_yes (c : Conf) (w : World) (hm : c.may = true) :
    Calls Tryz.prog 54 #[c.val] w fun e w' => ∃ k : Blks, e = .returned (.tuple #[.pointer (some ⟨k.bw, 0, none⟩), .int .i64 0]) ∧ Holds k (St.new c) w' ∧ (∀ i, (i = k.bw ∨ i = k.bb ∨ Own k i) → w.heap.size ≤ i) ∧ Below w.heap.size w w' := by
  have hnb := nodes_bounds hm
  have hob := ops_bounds c
  obtain ⟨a1, a2, _, _, _, _, _, _, a3, a4⟩ := may_bounds hm
  obtain ⟨m, hmm⟩ : ∃ m : Nat, c.nodes + c.ops + c.threads = m := ⟨(c.nodes + c.ops + c.threads).toNat, by omega⟩
  have hm2 : m ≤ 1048576 := by omega
  have Hm := Lib.hid hmm
  have HM := Lib.hid hm
  clear hm
  go_enter Tryz.func54, Tryz.ntmps54
  go_wp2_with (go_at_call 123; refine (bnew_yes c _ HM.out).mono ?_; rintro e w1 ⟨bb, bt, bo, bn, rfl, hB, hfr, hb⟩; obtain ⟨g0, g1, g2, g3, g4⟩ := confAt_new hb)
  have hz := hb.size
  simp at hz
  go_region_held3 (fun w' => w'.cell? ⟨w.heap.size, 0, none⟩ = some (.int .i64 c.threads) ∧ w'.cell? ⟨w.heap.size, 1, none⟩ = some (.int .i64 c.buckets) ∧ w'.cell? ⟨w.heap.size, 2, none⟩ = some (.int .i64 c.inserts) ∧ w'.cell? ⟨w.heap.size, 3, none⟩ = some (.int .i64 c.fuel) ∧ w'.cell? ⟨w.heap.size, 4, none⟩ = some (.int .i64 c.calls))
    (first
      | go_keep
      | (refine ⟨?_, ?_, ?_, ?_, ?_⟩ <;> (rw [hb2.cell (by simp; omega)]; go_simp))
      | (go_split_ands; refine ⟨?_, ?_, ?_, ?_, ?_⟩ <;> (rw [hb3.cell (by have := hb2.size; simp at this; show w.heap.size < _; omega)]; assumption)))
    ((first | (go_at_call 125; refine (len_conf c _ HM.out).mono ?_; rintro e w2 ⟨rfl, hb2⟩; rw [Hm.out]) | (go_at_call 124; refine (cnew_any m _ hm2).mono ?_; rintro e w3 ⟨rfl, hC, hb3⟩)))
  all_goals
    go_wp2
    go_ret2
    have hB3 := (hB.drew.keep hb2).keep hb3
    have s2 := hb2.size
    have s3 := hb3.size
    simp at s2 hfr
    refine ⟨⟨w3.heap.size, w2.heap.size + 1, w2.heap.size, bb, bt, bo, bn⟩, rfl, ⟨At.new _ _ _, ?_, ?_, hB3.thr.alloc _, hB3.ops.alloc _, hB3.nodes.alloc _, hB3.two, ok_new HM.out⟩, ?_, ?_⟩
    · have e : (c.nodes + c.ops + c.threads).toNat = m := by rw [Hm.out]; rfl
      show CellsAt _ _ _ (List.replicate (c.nodes + c.ops + c.threads).toNat 0) 0
      rw [e]
      exact hC.alloc _
    · show At _ bb _ #[_, _, _, _, _, .slice (some ⟨bt, 0, none⟩) (List.replicate c.threads.toNat _).length (List.replicate c.threads.toNat _).length, _, _]
      rw [List.length_replicate]
      exact hB3.book.alloc _
    · rintro i (rfl | rfl | rfl | rfl | rfl | rfl | rfl) <;> (try dsimp only) <;> omega
    · exact (((below_new hb).drew.trans (hb2.mono (by simp; omega))).trans (hb3.mono (by omega))).alloc (by omega) _

end Go.Proofs.YtccmjljlfgbicaaGreat
