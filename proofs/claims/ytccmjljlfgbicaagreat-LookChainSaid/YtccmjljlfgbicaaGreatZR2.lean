/- Contract of corrieref07.Begin: an operation is written down in the document's book. Printed by begingen.py. -/
import Derived.Test.YtccmjljlfgbicaaGreatRefW
import Derived.Deep.RegionHeld3
import Derived.Test.YtccmjljlfgbicaaGreatReg
namespace Go.Proofs.YtccmjljlfgbicaaGreat
open Go.ChangeShapes Go.WideShapes Go.ChangeAt Go.RowKit

abbrev GCall.arr (c : GCall) : Array Value := #[.int .i64 c.kind, .int .u64 c.key, .int .u64 c.val, .int .i64 c.limit]
theorem opinfo : (Tryz.prog.info? 93).map (fun i => (i.zero, i.size, i.bytes)) = some (some (.agg #[.int .i64 0, .int .i64 0, .int .u64 0, .int .u64 0, .int .i64 0]), 5, 40) := by kernel_rfl
theorem opRow_one (p : Int × GCall) : ∀ u ∈ opRow p, u.oneCell' = true := by
  intro u hu
  simp [opRow] at hu
  rcases hu with rfl | rfl | rfl | rfl | rfl <;> rfl
theorem opRows_len (l : List (Int × GCall)) : (opRows l).length = l.length * 5 := by
  unfold opRows
  induction l with
  | nil => rfl
  | cons a l ih => rw [List.flatMap_cons, List.length_append, ih, List.length_cons, Nat.add_mul]; show 5 + _ = _; omega
theorem opRows_one (l : List (Int × GCall)) : ∀ u ∈ opRows l, u.oneCell' = true := by
  intro u hu
  obtain ⟨p, _, hp⟩ := List.mem_flatMap.1 hu
  exact opRow_one p u hp
theorem At.grown {w w' : World} {g g' : Nat} {t : TypeId} {cs : Array Value} (h : At w g t cs) (hg : w.grownBy w' (some g')) (hne : g ≠ g') : At w' g t cs :=
  (hg.block g h.lt (by intro e; injection e with e; exact hne e)).trans h
theorem three_at (w : World) (o1 o2 o3 : Obj) {t1 t2 t3 : TypeId} {c1 c2 c3 : Array Value} (e1 : o1 = .cells c1 t1) (e2 : o2 = .cells c2 t2) (e3 : o3 = .cells c3 t3) :
    At (((w.alloc o1).alloc o2).alloc o3) w.heap.size t1 c1 ∧ At (((w.alloc o1).alloc o2).alloc o3) (w.heap.size + 1) t2 c2 ∧ At (((w.alloc o1).alloc o2).alloc o3) (w.heap.size + 1 + 1) t3 c3 ∧ Below w.heap.size w (((w.alloc o1).alloc o2).alloc o3) := by
  subst e1; subst e2; subst e3
  refine ⟨((At.new w _ _).alloc _).alloc _, (At.new1 w _ _ _).alloc _, ?_, (((Below.refl _ w).alloc (Nat.le_refl _) _).alloc (by simp) _).alloc (by simp; omega) _⟩
  have h := At.new ((w.alloc (.cells c1 t1)).alloc (.cells c2 t2)) t3 c3
  rw [World.size_alloc, World.size_alloc] at h
  exact h

set_option maxRecDepth 100000 in
set_option maxHeartbeats 1000000 in
theorem rbegin_thread {r : RV} {s : St} (n : Int) (c : GCall) (w : World) (hta : inTop n s.thr.length = false) :
    Calls Tryz.prog 63 #[r.book s, .int .i64 n, c.v] w fun e w' => e = .returned (.tuple #[.agg (r.bcells s), .int .i64 0, .int .i64 1]) ∧ Below w.heap.size w w' := by
  obtain ⟨A3, A5, A6, AB⟩ := three_at w (.cells (r.bcells s) 43) (.cells c.arr 28) (.cells zero10 43) rfl rfl rfl
  have hc := fun W => ris_any (r := r) (s := s) n W
  rw [hta] at hc
  go_enter Tryz.func63, Tryz.ntmps63
  go_wp2_with (first
    | (refine wpl_st rfl 43 _ _ rfl (r.bcells s) rfl _ rfl B6 (by kernel_rfl) rfl rfl rfl ?_; intro w2 A2 O2)
    | (refine wpl_ld rfl 43 _ rfl (r.bcells s) rfl _ B3 Tryz.underlying43 rfl (by kernel_rfl) rfl ?_)
    | (go_at_call 133; refine (hc _).mono ?_; rintro e w1 ⟨rfl, hb1⟩; have B3 := A3.below' hb1; have B5 := A5.below' hb1; have B6 := A6.below' hb1; have D1 := AB.trans (hb1.mono AB.size)
       have k0 : w1.cell? ⟨w.heap.size + 1, 0, none⟩ = some (.int .i64 c.kind) := B5.cell 0)
    | (refine wpl_ld rfl 43 _ rfl (r.bcells s) rfl _ A3 Tryz.underlying43 rfl (by kernel_rfl) rfl ?_))
  have D2 := D1.trans (O2.below D1.size fun j hj e => by have e' : j = w.heap.size + 1 + 1 := e; omega)
  exact bodyPost_ret (v := .tuple #[.agg (r.bcells s), .int .i64 0, .int .i64 1]) (res_cell_tmp2 (fn := Tryz.f63) Tryz.results63 _ _ (w.heap.size + 1 + 1) _ _ rfl A2 Tryz.underlying43 rfl (by kernel_rfl)) rfl ⟨rfl, D2⟩

set_option maxRecDepth 100000 in
set_option maxHeartbeats 1000000 in
theorem rbegin_kind {r : RV} {s : St} (n : Int) (c : GCall) (w : World) (hta : inTop n s.thr.length = true) (hk : c.kind < 1 ∨ 4 < c.kind) :
    Calls Tryz.prog 63 #[r.book s, .int .i64 n, c.v] w fun e w' => e = .returned (.tuple #[.agg (r.bcells s), .int .i64 0, .int .i64 1]) ∧ Below w.heap.size w w' := by
  obtain ⟨A3, A5, A6, AB⟩ := three_at w (.cells (r.bcells s) 43) (.cells c.arr 28) (.cells zero10 43) rfl rfl rfl
  have hc := fun W => ris_any (r := r) (s := s) n W
  rw [hta] at hc
  by_cases hk1 : c.kind < 1
  · clear hk
    go_enter Tryz.func63, Tryz.ntmps63
    go_wp2_with (first
      | (refine wpl_st rfl 43 _ _ rfl (r.bcells s) rfl _ rfl B6 (by kernel_rfl) rfl rfl rfl ?_; intro w2 A2 O2)
      | (refine wpl_ld rfl 43 _ rfl (r.bcells s) rfl _ B3 Tryz.underlying43 rfl (by kernel_rfl) rfl ?_)
      | (go_at_call 133; refine (hc _).mono ?_; rintro e w1 ⟨rfl, hb1⟩; have B3 := A3.below' hb1; have B5 := A5.below' hb1; have B6 := A6.below' hb1; have D1 := AB.trans (hb1.mono AB.size)
         have k0 : w1.cell? ⟨w.heap.size + 1, 0, none⟩ = some (.int .i64 c.kind) := B5.cell 0)
      | (refine wpl_ld rfl 43 _ rfl (r.bcells s) rfl _ A3 Tryz.underlying43 rfl (by kernel_rfl) rfl ?_))
    have D2 := D1.trans (O2.below D1.size fun j hj e => by have e' : j = w.heap.size + 1 + 1 := e; omega)
    exact bodyPost_ret (v := .tuple #[.agg (r.bcells s), .int .i64 0, .int .i64 1]) (res_cell_tmp2 (fn := Tryz.f63) Tryz.results63 _ _ (w.heap.size + 1 + 1) _ _ rfl A2 Tryz.underlying43 rfl (by kernel_rfl)) rfl ⟨rfl, D2⟩
  · have hk2 : 4 < c.kind := by omega
    clear hk
    go_enter Tryz.func63, Tryz.ntmps63
    go_wp2_with (first
      | (refine wpl_st rfl 43 _ _ rfl (r.bcells s) rfl _ rfl B6 (by kernel_rfl) rfl rfl rfl ?_; intro w2 A2 O2)
      | (refine wpl_ld rfl 43 _ rfl (r.bcells s) rfl _ B3 Tryz.underlying43 rfl (by kernel_rfl) rfl ?_)
      | (go_at_call 133; refine (hc _).mono ?_; rintro e w1 ⟨rfl, hb1⟩; have B3 := A3.below' hb1; have B5 := A5.below' hb1; have B6 := A6.below' hb1; have D1 := AB.trans (hb1.mono AB.size)
         have k0 : w1.cell? ⟨w.heap.size + 1, 0, none⟩ = some (.int .i64 c.kind) := B5.cell 0)
      | (refine wpl_ld rfl 43 _ rfl (r.bcells s) rfl _ A3 Tryz.underlying43 rfl (by kernel_rfl) rfl ?_))
    have D2 := D1.trans (O2.below D1.size fun j hj e => by have e' : j = w.heap.size + 1 + 1 := e; omega)
    exact bodyPost_ret (v := .tuple #[.agg (r.bcells s), .int .i64 0, .int .i64 1]) (res_cell_tmp2 (fn := Tryz.f63) Tryz.results63 _ _ (w.heap.size + 1 + 1) _ _ rfl A2 Tryz.underlying43 rfl (by kernel_rfl)) rfl ⟨rfl, D2⟩

set_option maxRecDepth 100000 in
set_option maxHeartbeats 1000000 in
theorem rbegin_retired {r : RV} {s : St} (i : Nat) (t : Thr) (c : GCall) (w : World) (h : BookIn w r s) (hok : s.ok) (ht : s.thr[i]? = some t) (hk : 1 ≤ c.kind ∧ c.kind ≤ 4) (hfl : t.calls = s.c.calls) :
    Calls Tryz.prog 63 #[r.book s, .int .i64 i, c.v] w fun e w' => e = .returned (.tuple #[.agg (r.bcells s), .int .i64 0, .int .i64 2]) ∧ Below w.heap.size w w' := by
  obtain ⟨A3, A5, A6, AB⟩ := three_at w (.cells (r.bcells s) 43) (.cells c.arr 28) (.cells zero10 43) rfl rfl rfl
  have hmb := may_bounds hok.may
  have hct := hok.counts t (List.mem_of_getElem? ht)
  have hil : i < s.thr.length := (List.getElem?_eq_some_iff.1 ht).1
  have hta : inTop (i : Int) s.thr.length = true := by unfold inTop; simp; omega
  have hc := fun W => ris_any (r := r) (s := s) (i : Int) W
  rw [hta] at hc
  obtain ⟨mb, mo, hmeq, mlt, hm0⟩ := ints_read h.cs (k := i) (x := t.calls) (by simp [ht])
  obtain ⟨nb, no, hneq, nlt, hn0⟩ := ints_read h.is (k := i) (x := t.inserts) (by simp [ht])
  have HM := Lib.hid (And.intro hmeq hm0)
  have HN := Lib.hid (And.intro hneq hn0)
  have hmore : ∀ W, Below w.heap.size w W → _ := fun W (hb : Below w.heap.size w W) => rmore_any (l := s.thr.map Thr.calls) (ao := r.cs.1) (cap := r.cs.2) i W (h.cs.below hb) (by simpa using hil) (by rw [List.length_map]; have := hok.thr; omega) (fun x hx => by
    obtain ⟨u, hu, rfl⟩ := List.mem_map.1 hx
    have := hok.counts u hu
    omega)
  have hmore2 : ∀ W, Below w.heap.size w W → _ := fun W (hb : Below w.heap.size w W) => rmore_any (l := s.thr.map Thr.inserts) (ao := r.is.1) (cap := r.is.2) i W (h.is.below hb) (by simpa using hil) (by rw [List.length_map]; have := hok.thr; omega) (fun x hx => by
    obtain ⟨u, hu, rfl⟩ := List.mem_map.1 hx
    have := hok.counts u hu
    omega)
  simp only [List.length_map] at hmore hmore2
  have hg1 : (s.thr.map Thr.calls).getD i 0 = t.calls := by rw [List.getD_eq_getElem?_getD]; simp [ht]
  have hg2 : (s.thr.map Thr.inserts).getD i 0 = t.inserts := by rw [List.getD_eq_getElem?_getD]; simp [ht]
  rw [hg1, hmeq] at hmore
  rw [hg2, hneq] at hmore2
  have hop := fun W (hcl : t.calls < s.c.calls) => rop_any s.c (i : Int) t.calls W hok.may (by rw [← hok.thr]; omega) (by omega)
  have HO := Lib.hid hmore
  have HO2 := Lib.hid hmore2
  have HOp := Lib.hid hop
  have HOs := Lib.hid (And.intro h.os h.os0)
  obtain ⟨i0, hi0, hz0, hz1, hz2⟩ := info_parts opinfo
  have hk1 : ¬ c.kind < 1 := by omega
  have hk2 : ¬ 4 < c.kind := by omega
  have HK := Lib.hid (And.intro hmb hct)
  clear hmeq hm0 hneq hn0 h hmb hct hmore hmore2 hop hg1 hg2 hk
  have hfl' : (t.calls == s.c.calls) = true := by simpa using hfl
  go_enter Tryz.func63, Tryz.ntmps63
  go_wp2_with (first
    | (refine wpl_st rfl 43 _ _ rfl (r.bcells s) rfl _ rfl B6 (by kernel_rfl) rfl rfl rfl ?_; intro w2 A2 O2)
    | (refine wpl_ld rfl 43 _ rfl (r.bcells s) rfl _ B3 Tryz.underlying43 rfl (by kernel_rfl) rfl ?_)
    | (go_at_call 133; refine (hc _).mono ?_; rintro e w1 ⟨rfl, hb1⟩; have B3 := A3.below' hb1; have B5 := A5.below' hb1; have B6 := A6.below' hb1; have D1 := AB.trans (hb1.mono AB.size)
       have k0 : w1.cell? ⟨w.heap.size + 1, 0, none⟩ = some (.int .i64 c.kind) := B5.cell 0
       obtain ⟨⟨z0, z1, z2, z3, z4, z5, z6, z7, z8, z9⟩, zf, zl⟩ := at10 B3
       rw [HM.out.1] at z5
       have hm2 : w1.cell? ⟨mb, mo + i, none⟩ = some (.int .i64 t.calls) := by
         have := (D1.cell (p := ⟨mb, mo + i, none⟩) mlt)
         rw [this]; exact HM.out.2)
    | (refine wpl_ld rfl 43 _ rfl (r.bcells s) rfl _ A3 Tryz.underlying43 rfl (by kernel_rfl) rfl ?_))
  have D2 := D1.trans (O2.below D1.size fun j hj e => by have e' : j = w.heap.size + 1 + 1 := e; omega)
  exact bodyPost_ret (v := .tuple #[.agg (r.bcells s), .int .i64 0, .int .i64 2]) (res_cell_tmp2 (fn := Tryz.f63) Tryz.results63 _ _ (w.heap.size + 1 + 1) _ _ rfl A2 Tryz.underlying43 rfl (by kernel_rfl)) rfl ⟨rfl, D2⟩
end Go.Proofs.YtccmjljlfgbicaaGreat

/- What is kept while corrieref07.Begin writes an operation into its row, whatever order is drawn. -/
namespace Go.Proofs.YtccmjljlfgbicaaGreat
open Go.ChangeShapes Go.WideShapes Go.ChangeAt Go.RowKit

structure BegG (W : World) (B : Nat) (rows : List Value) (len : Nat) (bk : Value → Array Value) (os : Value) (n : Int) (c : GCall) (dn : Nat → Bool) (us : Nat → Value) (w : World) : Prop where
  only : Only (fun j => j = B) W w
  d108 : dn 10 = true → dn 8 = true
  d83 : dn 8 = true → dn 3 = true
  d32 : dn 3 = true → dn 2 = true
  book : dn 10 = false → At w B 43 (bk os)
  book' : dn 10 = true → At w B 43 (bk (us 8))
  f0 : dn 0 = true → ∃ g, us 0 = .slice (some ⟨g, 0, none⟩) 0 0 ∧ W.heap.size ≤ g ∧ g < w.heap.size ∧ (dn 3 = false → w.ownsRow W.heap.size 93 5 (.slice (some ⟨g, 0, none⟩) 0 0) 0 [])
  f1 : dn 1 = true → us 1 = .pointer (some ⟨B, 8, none⟩)
  f2 : dn 2 = true → us 2 = os
  f3 : dn 3 = true → ∃ g k, us 3 = .slice (some ⟨g, 0, none⟩) len k ∧ W.heap.size ≤ g ∧ (dn 8 = false → w.ownsRow W.heap.size 93 5 (.slice (some ⟨g, 0, none⟩) len k) len rows)
  f4 : dn 4 = true → us 4 = .int .i64 n
  f5 : dn 5 = true → us 5 = .agg c.arr
  f6 : dn 6 = true → us 6 = .agg (opRow (n, c)).toArray
  f7 : dn 7 = true → ∃ g, us 7 = .slice (some ⟨g, 0, none⟩) 1 1 ∧ W.heap.size ≤ g ∧ g < w.heap.size ∧ (dn 8 = false → ReadAt w (some ⟨g, 0, none⟩) (opRow (n, c))) ∧ (dn 0 = true → ∀ a b, us 0 ≠ .slice (some ⟨g, 0, none⟩) a b)
  f8 : dn 8 = true → ∃ g k, us 8 = .slice (some ⟨g, 0, none⟩) (len + 1) k ∧ W.heap.size ≤ g ∧ w.ownsRow W.heap.size 93 5 (.slice (some ⟨g, 0, none⟩) (len + 1) k) (len + 1) (rows ++ opRow (n, c))
  f9 : dn 9 = true → us 9 = .pointer (some ⟨B, 8, none⟩)

section
variable {W w : World} {B : Nat} {rows : List Value} {len : Nat} {bk : Value → Array Value} {os : Value} {n : Int} {c : GCall} {dn : Nat → Bool} {us : Nat → Value}
theorem BegG.start (us : Nat → Value) (hA : At W B 43 (bk os)) : BegG W B rows len bk os n c (fun _ => false) us W.drew :=
  ⟨⟨rfl, rfl, rfl, Nat.le_refl _, fun _ _ _ => rfl⟩, fun e => (by cases e), fun e => (by cases e), fun e => (by cases e), fun _ => hA, fun e => (by cases e), fun e => (by cases e), fun e => (by cases e), fun e => (by cases e), fun e => (by cases e), fun e => (by cases e), fun e => (by cases e), fun e => (by cases e), fun e => (by cases e), fun e => (by cases e), fun e => (by cases e)⟩
/-- More memory. -/
theorem BegG.alloc (h : BegG W B rows len bk os n c dn us w) (o : Obj) : BegG W B rows len bk os n c dn us (w.alloc o) := by
  have hb : Below w.heap.size w (w.alloc o) := (Below.refl _ w).alloc (Nat.le_refl _) o
  have hs : (w.alloc o).heap.size = w.heap.size + 1 := World.size_alloc _ _
  refine ⟨h.only.alloc o, h.d108, h.d83, h.d32, fun e => (h.book e).alloc o, fun e => (h.book' e).alloc o, fun e => ?_, h.f1, h.f2, fun e => ?_, h.f4, h.f5, h.f6, fun e => ?_, fun e => ?_, h.f9⟩
  · obtain ⟨g, a, b, b', d⟩ := h.f0 e
    exact ⟨g, a, b, by omega, fun q => ownsRow_still (d q) hb⟩
  · obtain ⟨g, k, a, b, d⟩ := h.f3 e
    exact ⟨g, k, a, b, fun q => ownsRow_still (d q) hb⟩
  · obtain ⟨g, a, b, b', d, f⟩ := h.f7 e
    exact ⟨g, a, b, by omega, fun q => (d q).below hb, f⟩
  · obtain ⟨g, k, a, b, d⟩ := h.f8 e
    exact ⟨g, k, a, b, ownsRow_still d hb⟩
theorem only_grown {S : Nat → Prop} {W w w' : World} {g : Nat} (h : Only S W w) (hg : w.grownBy w' (some g)) (hb : W.heap.size ≤ g) : Only S W w' :=
  ⟨hg.os.trans h.os, hg.tape.trans h.tape, hg.output.trans h.output, Nat.le_trans h.size hg.size, fun i hi hs => (hg.block i (Nat.lt_of_lt_of_le hi h.size) (by intro e; injection e with e; omega)).trans (h.block i hi hs)⟩
theorem ReadAt.grown {w w' : World} {g g' : Nat} {cs : List Value} (h : ReadAt w (some ⟨g, 0, none⟩) cs) (hg : w.grownBy w' (some g')) (hne : g ≠ g') : ReadAt w' (some ⟨g, 0, none⟩) cs := by
  intro j u hu
  obtain ⟨b, o, h1, h2⟩ := h j u hu
  injection h1 with h1
  injection h1 with e1 e2
  subst e1; subst e2
  have hb := World.block_lt_of_cell? w _ h2
  exact ⟨g, 0, rfl, by rw [World.cell?_of_block (hg.block g hb (by intro e; injection e with e; exact hne e))]; exact h2⟩
end
end Go.Proofs.YtccmjljlfgbicaaGreat

/- Contract of corrieref07.Begin, further. Printed by begingen.py. -/
namespace Go.Proofs.YtccmjljlfgbicaaGreat
open Go.ChangeShapes Go.WideShapes Go.ChangeAt Go.RowKit

set_option maxRecDepth 100000 in
set_option maxHeartbeats 1000000 in
theorem rbegin_full {r : RV} {s : St} (i : Nat) (t : Thr) (key val limit : Int) (w : World) (h : BookIn w r s) (hok : s.ok) (ht : s.thr[i]? = some t) (hfl : t.calls ≠ s.c.calls) (hin : t.inserts = s.c.inserts) :
    Calls Tryz.prog 63 #[r.book s, .int .i64 i, (GCall.v ⟨1, key, val, limit⟩)] w fun e w' => ∃ (g1 c1 : Nat), e = .returned (.tuple #[.agg #[.int .i64 s.c.threads, .int .i64 s.c.buckets, .int .i64 s.c.inserts, .int .i64 s.c.fuel, .int .i64 s.c.calls, .slice (some ⟨g1, 0, none⟩) s.thr.length c1, .slice r.is.1 s.thr.length r.is.2, .slice r.ms.1 s.thr.length r.ms.2, .slice r.os.1 s.ops.length r.os.2, .slice r.ns.1 s.nodes.length r.ns.2], .int .i64 0, .int .i64 3]) ∧ ReadAt w' (some ⟨g1, 0, none⟩) (intsV ((s.thr.map Thr.calls).set i (t.calls + 1))) ∧ Below w.heap.size w w' ∧ w.heap.size ≤ g1 := by
  obtain ⟨A3, A5, A6, AB⟩ := three_at w (.cells (r.bcells s) 43) (.cells (GCall.arr ⟨1, key, val, limit⟩) 28) (.cells zero10 43) rfl rfl rfl
  have hmb := may_bounds hok.may
  have hct := hok.counts t (List.mem_of_getElem? ht)
  have hil : i < s.thr.length := (List.getElem?_eq_some_iff.1 ht).1
  have hta : inTop (i : Int) s.thr.length = true := by unfold inTop; simp; omega
  have hc := fun W => ris_any (r := r) (s := s) (i : Int) W
  rw [hta] at hc
  obtain ⟨mb, mo, hmeq, mlt, hm0⟩ := ints_read h.cs (k := i) (x := t.calls) (by simp [ht])
  obtain ⟨nb, no, hneq, nlt, hn0⟩ := ints_read h.is (k := i) (x := t.inserts) (by simp [ht])
  have HM := Lib.hid (And.intro hmeq hm0)
  have HN := Lib.hid (And.intro hneq hn0)
  have hmore : ∀ W, Below w.heap.size w W → _ := fun W (hb : Below w.heap.size w W) => rmore_any (l := s.thr.map Thr.calls) (ao := r.cs.1) (cap := r.cs.2) i W (h.cs.below hb) (by simpa using hil) (by rw [List.length_map]; have := hok.thr; omega) (fun x hx => by
    obtain ⟨u, hu, rfl⟩ := List.mem_map.1 hx
    have := hok.counts u hu
    omega)
  have hmore2 : ∀ W, Below w.heap.size w W → _ := fun W (hb : Below w.heap.size w W) => rmore_any (l := s.thr.map Thr.inserts) (ao := r.is.1) (cap := r.is.2) i W (h.is.below hb) (by simpa using hil) (by rw [List.length_map]; have := hok.thr; omega) (fun x hx => by
    obtain ⟨u, hu, rfl⟩ := List.mem_map.1 hx
    have := hok.counts u hu
    omega)
  simp only [List.length_map] at hmore hmore2
  have hg1 : (s.thr.map Thr.calls).getD i 0 = t.calls := by rw [List.getD_eq_getElem?_getD]; simp [ht]
  have hg2 : (s.thr.map Thr.inserts).getD i 0 = t.inserts := by rw [List.getD_eq_getElem?_getD]; simp [ht]
  rw [hg1, hmeq] at hmore
  rw [hg2, hneq] at hmore2
  have hop := fun W (hcl : t.calls < s.c.calls) => rop_any s.c (i : Int) t.calls W hok.may (by rw [← hok.thr]; omega) (by omega)
  have HO := Lib.hid hmore
  have HO2 := Lib.hid hmore2
  have HOp := Lib.hid hop
  have HOs := Lib.hid (And.intro h.os h.os0)
  obtain ⟨i0, hi0, hz0, hz1, hz2⟩ := info_parts opinfo
  have HK := Lib.hid (And.intro hmb hct)
  clear hmeq hm0 hneq hn0 h hmb hct hmore hmore2 hop hg1 hg2
  have hfl' : (t.calls == s.c.calls) = false := by simpa using hfl
  have hin' : (t.inserts == s.c.inserts) = true := by simpa using hin
  go_enter Tryz.func63, Tryz.ntmps63
  go_wp2_with (first
    | (refine wpl_st rfl 39 _ _ rfl #[.int .i64 s.c.threads, .int .i64 s.c.buckets, .int .i64 s.c.inserts, .int .i64 s.c.fuel, .int .i64 s.c.calls, .slice (some ⟨g1, 0, none⟩) s.thr.length c1, .slice r.is.1 s.thr.length r.is.2, .slice r.ms.1 s.thr.length r.ms.2, .slice r.os.1 s.ops.length r.os.2, .slice r.ns.1 s.nodes.length r.ns.2] rfl _ rfl B23 (by kernel_rfl) rfl rfl rfl ?_; intro w3 B33 O3; have B35 := B25.only O3 (Nat.succ_ne_self _); have B36 := B26.only O3 (by show ¬ w.heap.size + 1 + 1 = w.heap.size; omega); have D3 := D2.trans (O3.below D2.size fun j hj e => Nat.lt_irrefl _ ((show j = w.heap.size from e) ▸ hj))
       have k3 : w3.cell? ⟨w.heap.size + 1, 0, none⟩ = some (.int .i64 1) := B35.cell 0
       have z2 : w3.cell? ⟨w.heap.size, 2, none⟩ = some (.int .i64 s.c.inserts) := B33.cell 2
       have z6 : w3.cell? ⟨w.heap.size, 6, none⟩ = some (.slice (some ⟨nb, no, none⟩) s.thr.length r.is.2) := by rw [← HN.out.1]; exact B33.cell 6
       have hn2 : w3.cell? ⟨nb, no + i, none⟩ = some (.int .i64 t.inserts) := by
         have := (D3.cell (p := ⟨nb, no + i, none⟩) nlt)
         rw [this]; exact HN.out.2
       have R3 := R2.only O3 fun b o e _ => by
         intro e2
         injection e with e; injection e with e3 e4
         have e2' : b = w.heap.size := e2
         have := B3.lt
         omega)
    | (go_at_call 134; refine (HO.out w1 D1).mono ?_; rintro e w2 ⟨g1, c1, rfl, R2, hb2, hg1⟩; clear z0 z1 z2 z3 z4 z5 z6 z7 z8 z9 zf zl hm2 k0; have B23 := B3.below' hb2; have B25 := B5.below' hb2; have B26 := B6.below' hb2; have D2 := D1.trans (hb2.mono D1.size))
    | (go_at_call 133; refine (hc _).mono ?_; rintro e w1 ⟨rfl, hb1⟩; have B3 := A3.below' hb1; have B5 := A5.below' hb1; have B6 := A6.below' hb1; have D1 := AB.trans (hb1.mono AB.size)
       have k0 : w1.cell? ⟨w.heap.size + 1, 0, none⟩ = some (.int .i64 1) := B5.cell 0
       obtain ⟨⟨z0, z1, z2, z3, z4, z5, z6, z7, z8, z9⟩, zf, zl⟩ := at10 B3
       rw [HM.out.1] at z5
       have hm2 : w1.cell? ⟨mb, mo + i, none⟩ = some (.int .i64 t.calls) := by
         have := (D1.cell (p := ⟨mb, mo + i, none⟩) mlt)
         rw [this]; exact HM.out.2)
    | (refine wpl_ld rfl 43 _ rfl (r.bcells s) rfl _ A3 Tryz.underlying43 rfl (by kernel_rfl) rfl ?_))
  go_quiet (fail)
  have C3 : At (w3.drewN nq) w.heap.size 43 #[.int .i64 s.c.threads, .int .i64 s.c.buckets, .int .i64 s.c.inserts, .int .i64 s.c.fuel, .int .i64 s.c.calls, .slice (some ⟨g1, 0, none⟩) s.thr.length c1, .slice r.is.1 s.thr.length r.is.2, .slice r.ms.1 s.thr.length r.ms.2, .slice r.os.1 s.ops.length r.os.2, .slice r.ns.1 s.nodes.length r.ns.2] := B33
  have C5 : At (w3.drewN nq) (w.heap.size + 1) 28 (GCall.arr ⟨1, key, val, limit⟩) := B35
  have C6 : At (w3.drewN nq) (w.heap.size + 1 + 1) 43 zero10 := B36
  have D4 := bl_drewN D3 nq
  have R4 : ReadAt (w3.drewN nq) (some ⟨g1, 0, none⟩) (intsV ((s.thr.map Thr.calls).set i (t.calls + 1))) := R3.below (bl_drewN (Below.refl _ _) nq)
  clear k3 z2 z6 hn2
  generalize w3.drewN nq = w4 at *
  go_wp2_with (first
    | (refine wpl_st rfl 43 _ _ rfl #[.int .i64 s.c.threads, .int .i64 s.c.buckets, .int .i64 s.c.inserts, .int .i64 s.c.fuel, .int .i64 s.c.calls, .slice (some ⟨g1, 0, none⟩) s.thr.length c1, .slice r.is.1 s.thr.length r.is.2, .slice r.ms.1 s.thr.length r.ms.2, .slice r.os.1 s.ops.length r.os.2, .slice r.ns.1 s.nodes.length r.ns.2] rfl _ rfl C6 (by kernel_rfl) rfl rfl rfl ?_; intro w5 A5 O5)
    | (refine wpl_ld rfl 43 _ rfl #[.int .i64 s.c.threads, .int .i64 s.c.buckets, .int .i64 s.c.inserts, .int .i64 s.c.fuel, .int .i64 s.c.calls, .slice (some ⟨g1, 0, none⟩) s.thr.length c1, .slice r.is.1 s.thr.length r.is.2, .slice r.ms.1 s.thr.length r.ms.2, .slice r.os.1 s.ops.length r.os.2, .slice r.ns.1 s.nodes.length r.ns.2] rfl _ C3 Tryz.underlying43 rfl (by kernel_rfl) rfl ?_))
  have D5 := D4.trans (O5.below D4.size fun j hj e => by have e' : j = w.heap.size + 1 + 1 := e; omega)
  have q1 := R4.only O5 fun b o e _ => by
    intro e2
    injection e with e; injection e with e3 e4
    have e2' : b = w.heap.size + 1 + 1 := e2
    have := B6.lt
    omega
  exact bodyPost_ret (v := .tuple #[.agg #[.int .i64 s.c.threads, .int .i64 s.c.buckets, .int .i64 s.c.inserts, .int .i64 s.c.fuel, .int .i64 s.c.calls, .slice (some ⟨g1, 0, none⟩) s.thr.length c1, .slice r.is.1 s.thr.length r.is.2, .slice r.ms.1 s.thr.length r.ms.2, .slice r.os.1 s.ops.length r.os.2, .slice r.ns.1 s.nodes.length r.ns.2], .int .i64 0, .int .i64 3]) (res_cell_tmp2 (fn := Tryz.f63) Tryz.results63 _ _ (w.heap.size + 1 + 1) _ _ rfl A5 Tryz.underlying43 rfl (by kernel_rfl)) rfl ⟨g1, c1, rfl, q1, D5, by have := D1.size; omega⟩
end Go.Proofs.YtccmjljlfgbicaaGreat

/- Contract of corrieref07.Begin, further. Printed by begingen.py. -/
namespace Go.Proofs.YtccmjljlfgbicaaGreat
open Go.ChangeShapes Go.WideShapes Go.ChangeAt Go.RowKit

set_option maxRecDepth 100000 in
set_option maxHeartbeats 2000000 in
theorem rbegin_other {r : RV} {s : St} (i : Nat) (t : Thr) (c : GCall) (w : World) (h : BookIn w r s) (hok : s.ok) (hos : s.ops.length ≤ 4090) (ht : s.thr[i]? = some t) (hk : 1 ≤ c.kind ∧ c.kind ≤ 4) (hfl : t.calls ≠ s.c.calls) (hk1' : c.kind ≠ 1) :
    Calls Tryz.prog 63 #[r.book s, .int .i64 i, c.v] w fun e w' => ∃ (g1 c1 g2 c2 : Nat), e = .returned (.tuple #[.agg #[.int .i64 s.c.threads, .int .i64 s.c.buckets, .int .i64 s.c.inserts, .int .i64 s.c.fuel, .int .i64 s.c.calls, .slice (some ⟨g1, 0, none⟩) s.thr.length c1, .slice r.is.1 s.thr.length r.is.2, .slice r.ms.1 s.thr.length r.ms.2, .slice (some ⟨g2, 0, none⟩) (s.ops.length + 1) c2, .slice r.ns.1 s.nodes.length r.ns.2], .int .i64 (i * s.c.calls + t.calls), .int .i64 0]) ∧ ReadAt w' (some ⟨g1, 0, none⟩) (intsV ((s.thr.map Thr.calls).set i (t.calls + 1))) ∧ ReadAt w' (some ⟨g2, 0, none⟩) (opRows s.ops ++ opRow ((i * s.c.calls + t.calls), c)) ∧ Below w.heap.size w w' ∧ w.heap.size ≤ g1 ∧ w.heap.size ≤ g2 := by
  obtain ⟨A3, A5, A6, AB⟩ := three_at w (.cells (r.bcells s) 43) (.cells c.arr 28) (.cells zero10 43) rfl rfl rfl
  have hmb := may_bounds hok.may
  have hct := hok.counts t (List.mem_of_getElem? ht)
  have hil : i < s.thr.length := (List.getElem?_eq_some_iff.1 ht).1
  have hta : inTop (i : Int) s.thr.length = true := by unfold inTop; simp; omega
  have hc := fun W => ris_any (r := r) (s := s) (i : Int) W
  rw [hta] at hc
  obtain ⟨mb, mo, hmeq, mlt, hm0⟩ := ints_read h.cs (k := i) (x := t.calls) (by simp [ht])
  obtain ⟨nb, no, hneq, nlt, hn0⟩ := ints_read h.is (k := i) (x := t.inserts) (by simp [ht])
  have HM := Lib.hid (And.intro hmeq hm0)
  have HN := Lib.hid (And.intro hneq hn0)
  have hmore : ∀ W, Below w.heap.size w W → _ := fun W (hb : Below w.heap.size w W) => rmore_any (l := s.thr.map Thr.calls) (ao := r.cs.1) (cap := r.cs.2) i W (h.cs.below hb) (by simpa using hil) (by rw [List.length_map]; have := hok.thr; omega) (fun x hx => by
    obtain ⟨u, hu, rfl⟩ := List.mem_map.1 hx
    have := hok.counts u hu
    omega)
  have hmore2 : ∀ W, Below w.heap.size w W → _ := fun W (hb : Below w.heap.size w W) => rmore_any (l := s.thr.map Thr.inserts) (ao := r.is.1) (cap := r.is.2) i W (h.is.below hb) (by simpa using hil) (by rw [List.length_map]; have := hok.thr; omega) (fun x hx => by
    obtain ⟨u, hu, rfl⟩ := List.mem_map.1 hx
    have := hok.counts u hu
    omega)
  simp only [List.length_map] at hmore hmore2
  have hg1 : (s.thr.map Thr.calls).getD i 0 = t.calls := by rw [List.getD_eq_getElem?_getD]; simp [ht]
  have hg2 : (s.thr.map Thr.inserts).getD i 0 = t.inserts := by rw [List.getD_eq_getElem?_getD]; simp [ht]
  rw [hg1, hmeq] at hmore
  rw [hg2, hneq] at hmore2
  have hop := fun W (hcl : t.calls < s.c.calls) => rop_any s.c (i : Int) t.calls W hok.may (by rw [← hok.thr]; omega) (by omega)
  have HO := Lib.hid hmore
  have HO2 := Lib.hid hmore2
  have HOp := Lib.hid hop
  have HOs := Lib.hid (And.intro h.os h.os0)
  obtain ⟨i0, hi0, hz0, hz1, hz2⟩ := info_parts opinfo
  have hk1 : ¬ c.kind < 1 := by omega
  have hk2 : ¬ 4 < c.kind := by omega
  have HK := Lib.hid (And.intro hmb hct)
  have hcl : t.calls < s.c.calls := by omega
  clear hmeq hm0 hneq hn0 h hmb hct hmore hmore2 hop hg1 hg2 hk
  have hfl' : (t.calls == s.c.calls) = false := by simpa using hfl
  have hki : (c.kind == 1) = false := by simpa using hk1'
  clear hk1'
  go_enter Tryz.func63, Tryz.ntmps63
  go_wp2_with (first
    | (refine wpl_st rfl 39 _ _ rfl #[.int .i64 s.c.threads, .int .i64 s.c.buckets, .int .i64 s.c.inserts, .int .i64 s.c.fuel, .int .i64 s.c.calls, .slice (some ⟨g1, 0, none⟩) s.thr.length c1, .slice r.is.1 s.thr.length r.is.2, .slice r.ms.1 s.thr.length r.ms.2, .slice r.os.1 s.ops.length r.os.2, .slice r.ns.1 s.nodes.length r.ns.2] rfl _ rfl B23 (by kernel_rfl) rfl rfl rfl ?_; intro w3 B33 O3; have B35 := B25.only O3 (Nat.succ_ne_self _); have B36 := B26.only O3 (by show ¬ w.heap.size + 1 + 1 = w.heap.size; omega); have D3 := D2.trans (O3.below D2.size fun j hj e => Nat.lt_irrefl _ ((show j = w.heap.size from e) ▸ hj))
       have k3 : w3.cell? ⟨w.heap.size + 1, 0, none⟩ = some (.int .i64 c.kind) := B35.cell 0
       have z2 : w3.cell? ⟨w.heap.size, 2, none⟩ = some (.int .i64 s.c.inserts) := B33.cell 2
       have z6 : w3.cell? ⟨w.heap.size, 6, none⟩ = some (.slice (some ⟨nb, no, none⟩) s.thr.length r.is.2) := by rw [← HN.out.1]; exact B33.cell 6
       have hn2 : w3.cell? ⟨nb, no + i, none⟩ = some (.int .i64 t.inserts) := by
         have := (D3.cell (p := ⟨nb, no + i, none⟩) nlt)
         rw [this]; exact HN.out.2
       have R3 := R2.only O3 fun b o e _ => by
         intro e2
         injection e with e; injection e with e3 e4
         have e2' : b = w.heap.size := e2
         have := B3.lt
         omega)
    | (go_at_call 134; refine (HO.out w1 D1).mono ?_; rintro e w2 ⟨g1, c1, rfl, R2, hb2, hg1⟩; clear z0 z1 z2 z3 z4 z5 z6 z7 z8 z9 zf zl hm2 k0; have B23 := B3.below' hb2; have B25 := B5.below' hb2; have B26 := B6.below' hb2; have D2 := D1.trans (hb2.mono D1.size))
    | (go_at_call 133; refine (hc _).mono ?_; rintro e w1 ⟨rfl, hb1⟩; have B3 := A3.below' hb1; have B5 := A5.below' hb1; have B6 := A6.below' hb1; have D1 := AB.trans (hb1.mono AB.size)
       have k0 : w1.cell? ⟨w.heap.size + 1, 0, none⟩ = some (.int .i64 c.kind) := B5.cell 0
       obtain ⟨⟨z0, z1, z2, z3, z4, z5, z6, z7, z8, z9⟩, zf, zl⟩ := at10 B3
       rw [HM.out.1] at z5
       have hm2 : w1.cell? ⟨mb, mo + i, none⟩ = some (.int .i64 t.calls) := by
         have := (D1.cell (p := ⟨mb, mo + i, none⟩) mlt)
         rw [this]; exact HM.out.2)
    | (refine wpl_ld rfl 43 _ rfl (r.bcells s) rfl _ A3 Tryz.underlying43 rfl (by kernel_rfl) rfl ?_))
  refine wp_region_P (l := [_, _, _, _, _, _, _, _, _, _, _, _, _, _]) (fun j v => match j with | 0 => v = .pointer (some ⟨w.heap.size + 1, 0, none⟩) | 1 => v = .int .i64 c.kind | 2 => v = .bool false | 3 => v = .bool false | 13 => v = .bool false | _ => True) (by kernel_rfl) (by kernel_rfl) ⟨?_, ?_, ?_, ?_, ?_, ?_, ?_, ?_, ?_, ?_, ?_, ?_, ?_, ?_, trivial⟩ ?_
  · intro us A hev hy hF K hK
    rw [if_pos (by rfl)]
    unfold Oper.wp execOp
    have e5 : A.eval (.tmp 5) = .pointer (some ⟨w.heap.size + 1, 0, none⟩) := by rw [hev]; rfl
    simp only [e5]
    go_simp
    exact hK _ rfl
  · intro us A hev hy hF K hK
    rw [if_pos (by rfl)]
    unfold Oper.wp execOp
    have e42 : A.eval (.tmp 42) = .pointer (some ⟨w.heap.size + 1, 0, none⟩) := by rw [hev]; exact hF 0 (by decide)
    simp only [e42]
    go_simp
    exact hK _ rfl
  · intro us A hev hy hF K hK
    rw [if_pos (by rfl)]
    unfold Oper.wp execOp
    have e43 : A.eval (.tmp 43) = .int .i64 c.kind := by rw [hev]; exact hF 1 (by decide)
    have ec : A.eval (.const (.int .i64 1)) = .int .i64 1 := by rw [hev]; rfl
    simp only [e43, ec]
    go_simp
    exact hK _ (by first | rfl | simp [hki])
  · intro us A hev hy hF K hK
    rw [if_pos (by rfl)]
    unfold Oper.wp execOp
    have e44 : A.eval (.tmp 44) = .bool false := by rw [hev]; exact hF 2 (by decide)
    simp only [e44]
    go_simp
    exact hK _ rfl
  · intro us A hev hy hF K hK
    have h3 : us 3 = .bool false := hF 3 (by decide)
    rw [if_neg (by rw [hy]; show ¬ ((match us 3 with | .bool b => some b | _ => none) == some true) = true; rw [h3]; decide)]
    exact hK _ trivial
  · intro us A hev hy hF K hK
    have h3 : us 3 = .bool false := hF 3 (by decide)
    rw [if_neg (by rw [hy]; show ¬ ((match us 3 with | .bool b => some b | _ => none) == some true) = true; rw [h3]; decide)]
    exact hK _ trivial
  · intro us A hev hy hF K hK
    have h3 : us 3 = .bool false := hF 3 (by decide)
    rw [if_neg (by rw [hy]; show ¬ ((match us 3 with | .bool b => some b | _ => none) == some true) = true; rw [h3]; decide)]
    exact hK _ trivial
  · intro us A hev hy hF K hK
    have h3 : us 3 = .bool false := hF 3 (by decide)
    rw [if_neg (by rw [hy]; show ¬ ((match us 3 with | .bool b => some b | _ => none) == some true) = true; rw [h3]; decide)]
    exact hK _ trivial
  · intro us A hev hy hF K hK
    have h3 : us 3 = .bool false := hF 3 (by decide)
    rw [if_neg (by rw [hy]; show ¬ ((match us 3 with | .bool b => some b | _ => none) == some true) = true; rw [h3]; decide)]
    exact hK _ trivial
  · intro us A hev hy hF K hK
    have h3 : us 3 = .bool false := hF 3 (by decide)
    rw [if_neg (by rw [hy]; show ¬ ((match us 3 with | .bool b => some b | _ => none) == some true) = true; rw [h3]; decide)]
    exact hK _ trivial
  · intro us A hev hy hF K hK
    have h3 : us 3 = .bool false := hF 3 (by decide)
    rw [if_neg (by rw [hy]; show ¬ ((match us 3 with | .bool b => some b | _ => none) == some true) = true; rw [h3]; decide)]
    exact hK _ trivial
  · intro us A hev hy hF K hK
    have h3 : us 3 = .bool false := hF 3 (by decide)
    rw [if_neg (by rw [hy]; show ¬ ((match us 3 with | .bool b => some b | _ => none) == some true) = true; rw [h3]; decide)]
    exact hK _ trivial
  · intro us A hev hy hF K hK
    have h3 : us 3 = .bool false := hF 3 (by decide)
    rw [if_neg (by rw [hy]; show ¬ ((match us 3 with | .bool b => some b | _ => none) == some true) = true; rw [h3]; decide)]
    exact hK _ trivial
  · intro us A hev hy hF K hK
    rw [if_pos (by rfl)]
    unfold Oper.wp execOp
    have e45 : A.eval (.tmp 45) = .bool false := by rw [hev]; exact hF 3 (by decide)
    have ec : A.eval (.const (.bool false)) = .bool false := by rw [hev]; rfl
    simp only [e45, ec]
    go_simp
    exact hK _ rfl
  intro us7 hF7
  have u13 : us7 13 = .bool false := hF7 13 (by decide)
  simp only [fillA, fillT, Act.put, Nat.reduceAdd, List.setIfInBounds_toArray, List.set_cons_zero, List.set_cons_succ, u13]
  clear hF7 u13
  have C3 : At w3.drew w.heap.size 43 #[.int .i64 s.c.threads, .int .i64 s.c.buckets, .int .i64 s.c.inserts, .int .i64 s.c.fuel, .int .i64 s.c.calls, .slice (some ⟨g1, 0, none⟩) s.thr.length c1, .slice r.is.1 s.thr.length r.is.2, .slice r.ms.1 s.thr.length r.ms.2, .slice r.os.1 s.ops.length r.os.2, .slice r.ns.1 s.nodes.length r.ns.2] := B33
  have C5 : At w3.drew (w.heap.size + 1) 28 c.arr := B35
  have C6 : At w3.drew (w.heap.size + 1 + 1) 43 zero10 := B36
  have D4 := D3.drew
  have R4 : ReadAt w3.drew (some ⟨g1, 0, none⟩) (intsV ((s.thr.map Thr.calls).set i (t.calls + 1))) := R3.below (Below.refl _ _).drew
  clear k3 z2 z6 hn2
  generalize w3.drew = w4 at *
  have k4 : w4.cell? ⟨w.heap.size + 1, 0, none⟩ = some (.int .i64 c.kind) := C5.cell 0
  go_wp2_with (first
    | (go_at_call 135; refine (HOp.out _ hcl).mono ?_; rintro e w5 ⟨rfl, hb5⟩; have E3 := C3.below' hb5; have E5 := C5.below' hb5; have E6 := C6.below' hb5; have D5 := D4.trans (hb5.mono D4.size); have R5 := R4.below hb5)
    | (refine wpl_ld rfl 35 _ rfl s.c.cells rfl _ C3 Tryz.underlying35 rfl (by kernel_rfl) rfl ?_))
  have l5 := E3.lt
  refine wp_region_J (l := [_, _, _, _, _, _, _, _, _, _, _]) (BegG w5 w.heap.size (opRows s.ops) s.ops.length (fun v : Value => #[.int .i64 s.c.threads, .int .i64 s.c.buckets, .int .i64 s.c.inserts, .int .i64 s.c.fuel, .int .i64 s.c.calls, .slice (some ⟨g1, 0, none⟩) s.thr.length c1, .slice r.is.1 s.thr.length r.is.2, .slice r.ms.1 s.thr.length r.ms.2, v, .slice r.ns.1 s.nodes.length r.ns.2]) (.slice r.os.1 s.ops.length r.os.2) (i * s.c.calls + t.calls) c) (by kernel_rfl) (by kernel_rfl) (fun us => BegG.start us E3) ⟨?_, ?_, ?_, ?_, ?_, ?_, ?_, ?_, ?_, ?_, ?_, trivial⟩ ?_
  · intro dn us w6 A hev hy hG hdn hdep K hK
    rw [if_pos (by rfl)]
    unfold Oper.wp execOp
    go_simp
    have hG' := hG.alloc (.cells #[] 93)
    refine hK _ _ ⟨hG'.only, hG'.d108, hG'.d83, hG'.d32, hG'.book, hG'.book', fun _ => ⟨w6.heap.size, rfl, hG.only.size, by rw [World.size_alloc]; omega, fun _ => World.ownsRow_lit w6 #[] 0 hG.only.size (by unfold maxLen; omega) rfl⟩, hG'.f1, hG'.f2, hG'.f3, hG'.f4, hG'.f5, hG'.f6, fun e => ?_, hG'.f8, hG'.f9⟩
    obtain ⟨g, a1, a2, a3, a4, a5⟩ := hG.f7 e
    refine ⟨g, a1, a2, by rw [World.size_alloc]; omega, fun q => (a4 q).below ((Below.refl _ w6).alloc (Nat.le_refl _) _), fun _ a b e2 => ?_⟩
    have e2' : Value.slice (some ⟨w6.heap.size, 0, none⟩) 0 0 = .slice (some ⟨g, 0, none⟩) a b := e2
    injection e2' with e2'
    injection e2' with e2'
    injection e2' with e2'
    omega
  · intro dn us w6 A hev hy hG hdn hdep K hK
    rw [if_pos (by rfl)]
    unfold Oper.wp execOp
    have e3 : A.eval (.tmp 3) = .pointer (some ⟨w.heap.size, 0, none⟩) := by rw [hev]; rfl
    simp only [e3]
    go_simp
    exact hK _ _ ⟨hG.only, hG.d108, hG.d83, hG.d32, hG.book, hG.book', hG.f0, fun _ => rfl, hG.f2, hG.f3, hG.f4, hG.f5, hG.f6, hG.f7, hG.f8, hG.f9⟩
  · intro dn us w6 A hev hy hG hdn hdep K hK
    have d1 : dn 1 = true := allD_mem hdep (by decide)
    have d10 : dn 10 = false := by
      cases q : dn 10 with
      | false => rfl
      | true => rw [hG.d32 (hG.d83 (hG.d108 q))] at hdn; cases hdn
    rw [if_pos (by rfl)]
    unfold Oper.wp execOp
    have e71 : A.eval (.tmp 71) = .pointer (some ⟨w.heap.size, 8, none⟩) := by rw [hev]; exact hG.f1 d1
    have c8 : w6.cell? ⟨w.heap.size, 8, none⟩ = some (.slice r.os.1 s.ops.length r.os.2) := (hG.book d10).cell 8
    simp only [e71]
    go_simp
    exact hK _ _ ⟨hG.only, hG.d108, hG.d83, fun _ => rfl, hG.book, hG.book', hG.f0, hG.f1, fun _ => rfl, hG.f3, hG.f4, hG.f5, hG.f6, hG.f7, hG.f8, hG.f9⟩
  · intro dn us w6 A hev hy hG hdn hdep K hK
    have d0 : dn 0 = true := allD_mem hdep (by decide)
    have d2 : dn 2 = true := allD_mem hdep (by decide)
    obtain ⟨g, u0, gb, gl, own⟩ := hG.f0 d0
    have e70 : A.eval (.tmp 70) = .slice (some ⟨g, 0, none⟩) 0 0 := by rw [hev]; exact u0
    have e72 : A.eval (.tmp 72) = .slice r.os.1 s.ops.length r.os.2 := by rw [hev]; exact hG.f2 d2
    have d8 : dn 8 = false := by
      cases q : dn 8 with
      | false => rfl
      | true => rw [hG.d83 q] at hdn; cases hdn
    have d10 : dn 10 = false := by
      cases q : dn 10 with
      | false => rfl
      | true => rw [hG.d108 q] at d8; cases d8
    refine step_app rfl (.tmp 70) (.tmp 72) 40 rfl w5.heap.size 93 i0 _ 5 40 Tryz.underlying40 hi0 hz0 hz1 hz2 rfl (by decide) e70 (own hdn) e72 (opRows_len s.ops) (HOs.out.1.below (D5.trans (hG.only.below D5.size fun j hj e => Nat.lt_irrefl _ ((show j = w.heap.size from e) ▸ hj)))) (fun e _ => by rw [HOs.out.2 (List.eq_nil_of_length_eq_zero e)]) (opRows_one _) (by unfold maxLen; omega) (by omega) hG.only.size ?_
    intro g' k' w7 R Gr g'b
    rw [Nat.zero_add, List.nil_append] at R
    rw [Nat.zero_add]
    refine hK _ _ ⟨only_grown hG.only Gr gb, fun e => ?_, fun _ => rfl, fun _ => d2, fun e => (hG.book d10).grown Gr (by omega), fun e => ?_, fun _ => ⟨g, u0, gb, Nat.lt_of_lt_of_le gl Gr.size, fun q => (nomatch (show true = false from q))⟩, hG.f1, hG.f2, fun _ => ⟨g', k', rfl, g'b, fun _ => R⟩, hG.f4, hG.f5, hG.f6, fun e => ?_, fun e => ?_, hG.f9⟩
    · exact hG.d108 e
    · rw [show dn 10 = true from e] at d10; cases d10
    · obtain ⟨g7, a1, a2, a3, a4, a5⟩ := hG.f7 e
      refine ⟨g7, a1, a2, Nat.lt_of_lt_of_le a3 Gr.size, fun q => (a4 q).grown Gr fun e2 => a5 d0 0 0 (by rw [u0, e2]), a5⟩
    · rw [show dn 8 = true from e] at d8; cases d8
  · intro dn us w6 A hev hy hG hdn hdep K hK
    rw [if_pos (by rfl)]
    unfold Oper.wp execOp
    have e10 : A.eval (.tmp 10) = .int .i64 (i * s.c.calls + t.calls) := by rw [hev]; rfl
    simp only [e10]
    go_simp
    exact hK _ _ ⟨hG.only, hG.d108, hG.d83, hG.d32, hG.book, hG.book', hG.f0, hG.f1, hG.f2, hG.f3, fun _ => rfl, hG.f5, hG.f6, hG.f7, hG.f8, hG.f9⟩
  · intro dn us w6 A hev hy hG hdn hdep K hK
    have e5 : A.eval (.tmp 5) = .pointer (some ⟨w.heap.size + 1, 0, none⟩) := by rw [hev]; rfl
    refine step_list (wpl_ld rfl 28 (.tmp 5) rfl c.arr e5 _ (E5.only hG.only (Nat.succ_ne_self _)) Tryz.underlying28 rfl (by kernel_rfl) rfl ⟨rfl, ?_⟩)
    exact hK _ _ ⟨hG.only, hG.d108, hG.d83, hG.d32, hG.book, hG.book', hG.f0, hG.f1, hG.f2, hG.f3, hG.f4, fun _ => rfl, hG.f6, hG.f7, hG.f8, hG.f9⟩
  · intro dn us w6 A hev hy hG hdn hdep K hK
    have d4 : dn 4 = true := allD_mem hdep (by decide)
    have d5 : dn 5 = true := allD_mem hdep (by decide)
    rw [if_pos (by rfl)]
    unfold Oper.wp execOp
    have e74 : A.eval (.tmp 74) = .int .i64 (i * s.c.calls + t.calls) := by rw [hev]; exact hG.f4 d4
    have e75 : A.eval (.tmp 75) = .agg c.arr := by rw [hev]; exact hG.f5 d5
    generalize A.eval = ev at e74 e75 ⊢
    go_simp
    exact hK _ _ ⟨hG.only, hG.d108, hG.d83, hG.d32, hG.book, hG.book', hG.f0, hG.f1, hG.f2, hG.f3, hG.f4, hG.f5, fun _ => rfl, hG.f7, hG.f8, hG.f9⟩
  · intro dn us w6 A hev hy hG hdn hdep K hK
    have d6 : dn 6 = true := allD_mem hdep (by decide)
    rw [if_pos (by rfl)]
    unfold Oper.wp execOp
    have e76 : A.eval (.tmp 76) = .agg (opRow ((i * s.c.calls + t.calls), c)).toArray := by rw [hev]; exact hG.f6 d6
    unfold opRow at e76
    generalize A.eval = ev at e76 ⊢
    go_simp
    have hG' := hG.alloc (.cells (opRow ((i * s.c.calls + t.calls), c)).toArray 93)
    refine hK _ _ ⟨hG'.only, hG'.d108, hG'.d83, hG'.d32, hG'.book, hG'.book', hG'.f0, hG'.f1, hG'.f2, hG'.f3, hG'.f4, hG'.f5, hG'.f6, fun e => ⟨w6.heap.size, rfl, hG.only.size, by rw [World.size_alloc]; omega, fun _ => readAt_row (World.ownsRow_lit (base := 0) (size := 5) w6 (opRow ((i * s.c.calls + t.calls), c)).toArray 1 (Nat.zero_le _) (by unfold maxLen; omega) rfl), fun d0 a b e2 => ?_⟩, hG'.f8, hG'.f9⟩
    obtain ⟨g, a1, a2, a3, _⟩ := hG.f0 d0
    have e2' : us 0 = .slice (some ⟨w6.heap.size, 0, none⟩) a b := e2
    rw [a1] at e2'
    injection e2' with e2'
    injection e2' with e2'
    injection e2' with e2'
    omega
  · intro dn us w6 A hev hy hG hdn hdep K hK
    have d3 : dn 3 = true := allD_mem hdep (by decide)
    have d7 : dn 7 = true := allD_mem hdep (by decide)
    obtain ⟨g, kk, u3, gb, own⟩ := hG.f3 d3
    obtain ⟨g7, u7, a2, a3, a4, a5⟩ := hG.f7 d7
    have e73 : A.eval (.tmp 73) = .slice (some ⟨g, 0, none⟩) s.ops.length kk := by rw [hev]; exact u3
    have e77 : A.eval (.tmp 77) = .slice (some ⟨g7, 0, none⟩) 1 1 := by rw [hev]; exact u7
    have d10 : dn 10 = false := by
      cases q : dn 10 with
      | false => rfl
      | true => rw [hG.d108 q] at hdn; cases hdn
    refine step_app rfl (.tmp 73) (.tmp 77) 40 rfl w5.heap.size 93 i0 _ 5 40 Tryz.underlying40 hi0 hz0 hz1 hz2 rfl (by decide) e73 (own hdn) e77 (show (opRow ((i * s.c.calls + t.calls), c)).length = 1 * 5 from rfl) (a4 hdn) (fun e _ => by omega) (opRow_one _) (by unfold maxLen; omega) (by omega) hG.only.size ?_
    intro g' k' w7 R Gr g'b
    refine hK _ _ ⟨only_grown hG.only Gr gb, fun _ => rfl, fun _ => d3, hG.d32, fun e => (hG.book d10).grown Gr (by omega), fun e => ?_, fun e => ?_, hG.f1, hG.f2, fun _ => ⟨g, kk, u3, gb, fun q => (nomatch (show true = false from q))⟩, hG.f4, hG.f5, hG.f6, fun e => ⟨g7, u7, a2, Nat.lt_of_lt_of_le a3 Gr.size, fun q => (nomatch (show true = false from q)), a5⟩, fun _ => ⟨g', k', rfl, g'b, R⟩, hG.f9⟩
    · rw [show dn 10 = true from e] at d10; cases d10
    · obtain ⟨g0, b1, b2, b3, b4⟩ := hG.f0 e
      exact ⟨g0, b1, b2, Nat.lt_of_lt_of_le b3 Gr.size, fun q => by rw [show dn 3 = false from q] at d3; cases d3⟩
  · intro dn us w6 A hev hy hG hdn hdep K hK
    rw [if_pos (by rfl)]
    unfold Oper.wp execOp
    have e3 : A.eval (.tmp 3) = .pointer (some ⟨w.heap.size, 0, none⟩) := by rw [hev]; rfl
    simp only [e3]
    go_simp
    exact hK _ _ ⟨hG.only, hG.d108, hG.d83, hG.d32, hG.book, hG.book', hG.f0, hG.f1, hG.f2, hG.f3, hG.f4, hG.f5, hG.f6, hG.f7, hG.f8, fun _ => rfl⟩
  · intro dn us w6 A hev hy hG hdn hdep K hK
    have d8 : dn 8 = true := allD_mem hdep (by decide)
    have d9 : dn 9 = true := allD_mem hdep (by decide)
    obtain ⟨g, kk, u8, gb, own⟩ := hG.f8 d8
    have e79 : A.eval (.tmp 79) = .pointer (some ⟨w.heap.size, 8, none⟩) := by rw [hev]; exact hG.f9 d9
    have e78 : A.eval (.tmp 78) = .slice (some ⟨g, 0, none⟩) (s.ops.length + 1) kk := by rw [hev]; exact u8
    refine step_list (wpl_st rfl 40 (.tmp 79) (.tmp 78) rfl ((fun v : Value => #[.int .i64 s.c.threads, .int .i64 s.c.buckets, .int .i64 s.c.inserts, .int .i64 s.c.fuel, .int .i64 s.c.calls, .slice (some ⟨g1, 0, none⟩) s.thr.length c1, .slice r.is.1 s.thr.length r.is.2, .slice r.ms.1 s.thr.length r.ms.2, v, .slice r.ns.1 s.nodes.length r.ns.2]) (.slice (some ⟨g, 0, none⟩) (s.ops.length + 1) kk)) e79 _ e78 (hG.book hdn) (by kernel_rfl) rfl rfl rfl fun w7 A7 O7 => ⟨rfl, ?_⟩)
    have hO := hG.only.trans O7
    refine hK _ _ ⟨hO, fun _ => d8, hG.d83, hG.d32, fun q => (nomatch (show true = false from q)), fun _ => by show At w7 _ _ ((fun v : Value => #[.int .i64 s.c.threads, .int .i64 s.c.buckets, .int .i64 s.c.inserts, .int .i64 s.c.fuel, .int .i64 s.c.calls, .slice (some ⟨g1, 0, none⟩) s.thr.length c1, .slice r.is.1 s.thr.length r.is.2, .slice r.ms.1 s.thr.length r.ms.2, v, .slice r.ns.1 s.nodes.length r.ns.2]) (us 8)); rw [u8]; exact A7, fun e => ?_, hG.f1, hG.f2, fun e => ?_, hG.f4, hG.f5, hG.f6, fun e => ?_, fun e => ⟨g, kk, u8, gb, ownsRow_only own O7 (by show ¬ g = w.heap.size; omega)⟩, hG.f9⟩
    · obtain ⟨g0, b1, b2, b3, b4⟩ := hG.f0 e
      exact ⟨g0, b1, b2, Nat.lt_of_lt_of_le b3 O7.size, fun q => ownsRow_only (b4 q) O7 (by show ¬ g0 = w.heap.size; omega)⟩
    · obtain ⟨g0, k0, b1, b2, b4⟩ := hG.f3 e
      exact ⟨g0, k0, b1, b2, fun q => ownsRow_only (b4 q) O7 (by show ¬ g0 = w.heap.size; omega)⟩
    · obtain ⟨g0, b1, b2, b3, b4, b5⟩ := hG.f7 e
      exact ⟨g0, b1, b2, Nat.lt_of_lt_of_le b3 O7.size, fun q => (by rw [show dn 8 = false from q] at d8; cases d8), b5⟩
  intro dn us w7 hG hall
  obtain ⟨g2, c2, u8, g2b, R8⟩ := hG.f8 (hall 8 (by decide))
  have F3 := hG.book' (hall 10 (by decide))
  rw [u8] at F3
  have F6 : At w7 (w.heap.size + 1 + 1) 43 zero10 := E6.only hG.only (by show ¬ w.heap.size + 1 + 1 = w.heap.size; omega)
  have D7 := D5.trans (hG.only.below D5.size fun j hj e => Nat.lt_irrefl _ ((show j = w.heap.size from e) ▸ hj))
  have R7 := R5.only hG.only fun b o e _ => by
    intro e2
    injection e with e; injection e with e3 e4
    have e2' : b = w.heap.size := e2
    have := B3.lt
    omega
  simp only [fillA, fillT, Nat.reduceAdd, List.setIfInBounds_toArray, List.set_cons_zero, List.set_cons_succ]
  clear hG hall u8
  go_wp2_with (first
    | (refine wpl_st rfl 43 _ _ rfl #[.int .i64 s.c.threads, .int .i64 s.c.buckets, .int .i64 s.c.inserts, .int .i64 s.c.fuel, .int .i64 s.c.calls, .slice (some ⟨g1, 0, none⟩) s.thr.length c1, .slice r.is.1 s.thr.length r.is.2, .slice r.ms.1 s.thr.length r.ms.2, .slice (some ⟨g2, 0, none⟩) (s.ops.length + 1) c2, .slice r.ns.1 s.nodes.length r.ns.2] rfl _ rfl F6 (by kernel_rfl) rfl rfl rfl ?_; intro w8 A8 O8)
    | (refine wpl_ld rfl 43 _ rfl #[.int .i64 s.c.threads, .int .i64 s.c.buckets, .int .i64 s.c.inserts, .int .i64 s.c.fuel, .int .i64 s.c.calls, .slice (some ⟨g1, 0, none⟩) s.thr.length c1, .slice r.is.1 s.thr.length r.is.2, .slice r.ms.1 s.thr.length r.ms.2, .slice (some ⟨g2, 0, none⟩) (s.ops.length + 1) c2, .slice r.ns.1 s.nodes.length r.ns.2] rfl _ F3 Tryz.underlying43 rfl (by kernel_rfl) rfl ?_))
  have D8 := D7.trans (O8.below D7.size fun j hj e => by have e' : j = w.heap.size + 1 + 1 := e; omega)
  have l56 := E6.lt
  have q1 := R7.only O8 fun b o e _ => by
    intro e2
    injection e with e; injection e with e3 e4
    have e2' : b = w.heap.size + 1 + 1 := e2
    have := B6.lt
    omega
  have q2 := (readAt_row R8).only O8 fun b o e _ => by
    intro e2
    injection e with e; injection e with e3 e4
    have e2' : b = w.heap.size + 1 + 1 := e2
    omega
  exact bodyPost_ret (v := .tuple #[.agg #[.int .i64 s.c.threads, .int .i64 s.c.buckets, .int .i64 s.c.inserts, .int .i64 s.c.fuel, .int .i64 s.c.calls, .slice (some ⟨g1, 0, none⟩) s.thr.length c1, .slice r.is.1 s.thr.length r.is.2, .slice r.ms.1 s.thr.length r.ms.2, .slice (some ⟨g2, 0, none⟩) (s.ops.length + 1) c2, .slice r.ns.1 s.nodes.length r.ns.2], .int .i64 (i * s.c.calls + t.calls), .int .i64 0]) (res_cell_tmp2 (fn := Tryz.f63) Tryz.results63 _ _ (w.heap.size + 1 + 1) _ _ rfl A8 Tryz.underlying43 rfl (by kernel_rfl)) rfl ⟨g1, c1, g2, c2, rfl, q1, q2, D8, by have := D1.size; omega, by have := D5.size; omega⟩
end Go.Proofs.YtccmjljlfgbicaaGreat

/- Contract of corrieref07.Begin, further. Printed by begingen.py. -/
namespace Go.Proofs.YtccmjljlfgbicaaGreat
open Go.ChangeShapes Go.WideShapes Go.ChangeAt Go.RowKit

set_option maxRecDepth 100000 in
set_option maxHeartbeats 2000000 in
theorem rbegin_insert {r : RV} {s : St} (i : Nat) (t : Thr) (key val limit : Int) (w : World) (h : BookIn w r s) (hok : s.ok) (hos : s.ops.length ≤ 4090) (ht : s.thr[i]? = some t) (hfl : t.calls ≠ s.c.calls) (hin : t.inserts ≠ s.c.inserts) :
    Calls Tryz.prog 63 #[r.book s, .int .i64 i, (GCall.v ⟨1, key, val, limit⟩)] w fun e w' => ∃ (g1 c1 g5 c5 g2 c2 : Nat), e = .returned (.tuple #[.agg #[.int .i64 s.c.threads, .int .i64 s.c.buckets, .int .i64 s.c.inserts, .int .i64 s.c.fuel, .int .i64 s.c.calls, .slice (some ⟨g1, 0, none⟩) s.thr.length c1, .slice (some ⟨g5, 0, none⟩) s.thr.length c5, .slice r.ms.1 s.thr.length r.ms.2, .slice (some ⟨g2, 0, none⟩) (s.ops.length + 1) c2, .slice r.ns.1 s.nodes.length r.ns.2], .int .i64 (i * s.c.calls + t.calls), .int .i64 0]) ∧ ReadAt w' (some ⟨g1, 0, none⟩) (intsV ((s.thr.map Thr.calls).set i (t.calls + 1))) ∧ ReadAt w' (some ⟨g5, 0, none⟩) (intsV ((s.thr.map Thr.inserts).set i (t.inserts + 1))) ∧ ReadAt w' (some ⟨g2, 0, none⟩) (opRows s.ops ++ opRow ((i * s.c.calls + t.calls), (⟨1, key, val, limit⟩ : GCall))) ∧ Below w.heap.size w w' ∧ w.heap.size ≤ g1 ∧ w.heap.size ≤ g5 ∧ w.heap.size ≤ g2 := by
  obtain ⟨A3, A5, A6, AB⟩ := three_at w (.cells (r.bcells s) 43) (.cells (GCall.arr ⟨1, key, val, limit⟩) 28) (.cells zero10 43) rfl rfl rfl
  have hmb := may_bounds hok.may
  have hct := hok.counts t (List.mem_of_getElem? ht)
  have hil : i < s.thr.length := (List.getElem?_eq_some_iff.1 ht).1
  have hta : inTop (i : Int) s.thr.length = true := by unfold inTop; simp; omega
  have hc := fun W => ris_any (r := r) (s := s) (i : Int) W
  rw [hta] at hc
  obtain ⟨mb, mo, hmeq, mlt, hm0⟩ := ints_read h.cs (k := i) (x := t.calls) (by simp [ht])
  obtain ⟨nb, no, hneq, nlt, hn0⟩ := ints_read h.is (k := i) (x := t.inserts) (by simp [ht])
  have HM := Lib.hid (And.intro hmeq hm0)
  have HN := Lib.hid (And.intro hneq hn0)
  have hmore : ∀ W, Below w.heap.size w W → _ := fun W (hb : Below w.heap.size w W) => rmore_any (l := s.thr.map Thr.calls) (ao := r.cs.1) (cap := r.cs.2) i W (h.cs.below hb) (by simpa using hil) (by rw [List.length_map]; have := hok.thr; omega) (fun x hx => by
    obtain ⟨u, hu, rfl⟩ := List.mem_map.1 hx
    have := hok.counts u hu
    omega)
  have hmore2 : ∀ W, Below w.heap.size w W → _ := fun W (hb : Below w.heap.size w W) => rmore_any (l := s.thr.map Thr.inserts) (ao := r.is.1) (cap := r.is.2) i W (h.is.below hb) (by simpa using hil) (by rw [List.length_map]; have := hok.thr; omega) (fun x hx => by
    obtain ⟨u, hu, rfl⟩ := List.mem_map.1 hx
    have := hok.counts u hu
    omega)
  simp only [List.length_map] at hmore hmore2
  have hg1 : (s.thr.map Thr.calls).getD i 0 = t.calls := by rw [List.getD_eq_getElem?_getD]; simp [ht]
  have hg2 : (s.thr.map Thr.inserts).getD i 0 = t.inserts := by rw [List.getD_eq_getElem?_getD]; simp [ht]
  rw [hg1, hmeq] at hmore
  rw [hg2, hneq] at hmore2
  have hop := fun W (hcl : t.calls < s.c.calls) => rop_any s.c (i : Int) t.calls W hok.may (by rw [← hok.thr]; omega) (by omega)
  have HO := Lib.hid hmore
  have HO2 := Lib.hid hmore2
  have HOp := Lib.hid hop
  have HOs := Lib.hid (And.intro h.os h.os0)
  obtain ⟨i0, hi0, hz0, hz1, hz2⟩ := info_parts opinfo
  have HK := Lib.hid (And.intro hmb hct)
  have hcl : t.calls < s.c.calls := by omega
  clear hmeq hm0 hneq hn0 h hmb hct hmore hmore2 hop hg1 hg2
  have hfl' : (t.calls == s.c.calls) = false := by simpa using hfl
  have hin' : (t.inserts == s.c.inserts) = false := by simpa using hin
  go_enter Tryz.func63, Tryz.ntmps63
  go_wp2_with (first
    | (refine wpl_st rfl 39 _ _ rfl #[.int .i64 s.c.threads, .int .i64 s.c.buckets, .int .i64 s.c.inserts, .int .i64 s.c.fuel, .int .i64 s.c.calls, .slice (some ⟨g1, 0, none⟩) s.thr.length c1, .slice r.is.1 s.thr.length r.is.2, .slice r.ms.1 s.thr.length r.ms.2, .slice r.os.1 s.ops.length r.os.2, .slice r.ns.1 s.nodes.length r.ns.2] rfl _ rfl B23 (by kernel_rfl) rfl rfl rfl ?_; intro w3 B33 O3; have B35 := B25.only O3 (Nat.succ_ne_self _); have B36 := B26.only O3 (by show ¬ w.heap.size + 1 + 1 = w.heap.size; omega); have D3 := D2.trans (O3.below D2.size fun j hj e => Nat.lt_irrefl _ ((show j = w.heap.size from e) ▸ hj))
       have k3 : w3.cell? ⟨w.heap.size + 1, 0, none⟩ = some (.int .i64 1) := B35.cell 0
       have z2 : w3.cell? ⟨w.heap.size, 2, none⟩ = some (.int .i64 s.c.inserts) := B33.cell 2
       have z6 : w3.cell? ⟨w.heap.size, 6, none⟩ = some (.slice (some ⟨nb, no, none⟩) s.thr.length r.is.2) := by rw [← HN.out.1]; exact B33.cell 6
       have hn2 : w3.cell? ⟨nb, no + i, none⟩ = some (.int .i64 t.inserts) := by
         have := (D3.cell (p := ⟨nb, no + i, none⟩) nlt)
         rw [this]; exact HN.out.2
       have R3 := R2.only O3 fun b o e _ => by
         intro e2
         injection e with e; injection e with e3 e4
         have e2' : b = w.heap.size := e2
         have := B3.lt
         omega)
    | (go_at_call 134; refine (HO.out w1 D1).mono ?_; rintro e w2 ⟨g1, c1, rfl, R2, hb2, hg1⟩; clear z0 z1 z2 z3 z4 z5 z6 z7 z8 z9 zf zl hm2 k0; have B23 := B3.below' hb2; have B25 := B5.below' hb2; have B26 := B6.below' hb2; have D2 := D1.trans (hb2.mono D1.size))
    | (go_at_call 133; refine (hc _).mono ?_; rintro e w1 ⟨rfl, hb1⟩; have B3 := A3.below' hb1; have B5 := A5.below' hb1; have B6 := A6.below' hb1; have D1 := AB.trans (hb1.mono AB.size)
       have k0 : w1.cell? ⟨w.heap.size + 1, 0, none⟩ = some (.int .i64 1) := B5.cell 0
       obtain ⟨⟨z0, z1, z2, z3, z4, z5, z6, z7, z8, z9⟩, zf, zl⟩ := at10 B3
       rw [HM.out.1] at z5
       have hm2 : w1.cell? ⟨mb, mo + i, none⟩ = some (.int .i64 t.calls) := by
         have := (D1.cell (p := ⟨mb, mo + i, none⟩) mlt)
         rw [this]; exact HM.out.2)
    | (refine wpl_ld rfl 43 _ rfl (r.bcells s) rfl _ A3 Tryz.underlying43 rfl (by kernel_rfl) rfl ?_))
  go_quiet (fail)
  have C3 : At (w3.drewN nq) w.heap.size 43 #[.int .i64 s.c.threads, .int .i64 s.c.buckets, .int .i64 s.c.inserts, .int .i64 s.c.fuel, .int .i64 s.c.calls, .slice (some ⟨g1, 0, none⟩) s.thr.length c1, .slice r.is.1 s.thr.length r.is.2, .slice r.ms.1 s.thr.length r.ms.2, .slice r.os.1 s.ops.length r.os.2, .slice r.ns.1 s.nodes.length r.ns.2] := B33
  have C5 : At (w3.drewN nq) (w.heap.size + 1) 28 (GCall.arr ⟨1, key, val, limit⟩) := B35
  have C6 : At (w3.drewN nq) (w.heap.size + 1 + 1) 43 zero10 := B36
  have D4 := bl_drewN D3 nq
  have R4 : ReadAt (w3.drewN nq) (some ⟨g1, 0, none⟩) (intsV ((s.thr.map Thr.calls).set i (t.calls + 1))) := R3.below (bl_drewN (Below.refl _ _) nq)
  clear k3 z2 z6 hn2
  generalize w3.drewN nq = w4 at *
  have k4 : w4.cell? ⟨w.heap.size + 1, 0, none⟩ = some (.int .i64 1) := C5.cell 0
  have y6 : w4.cell? ⟨w.heap.size, 6, none⟩ = some (.slice (some ⟨nb, no, none⟩) s.thr.length r.is.2) := by rw [← HN.out.1]; exact C3.cell 6
  go_wp2_with (first
    | (go_at_call 135; refine (HOp.out _ hcl).mono ?_; rintro e w5 ⟨rfl, hb5⟩; have E3 := X3.below' hb5; have E5 := X5.below' hb5; have E6 := X6.below' hb5; have D5 := DX.trans (hb5.mono DX.size); have R5 := RX.below hb5; have S5 := SX.below hb5)
    | (refine wpl_ld rfl 35 _ rfl s.c.cells rfl _ X3 Tryz.underlying35 rfl (by kernel_rfl) rfl ?_)
    | (refine wpl_st rfl 39 _ _ rfl #[.int .i64 s.c.threads, .int .i64 s.c.buckets, .int .i64 s.c.inserts, .int .i64 s.c.fuel, .int .i64 s.c.calls, .slice (some ⟨g1, 0, none⟩) s.thr.length c1, .slice (some ⟨g5, 0, none⟩) s.thr.length c5, .slice r.ms.1 s.thr.length r.ms.2, .slice r.os.1 s.ops.length r.os.2, .slice r.ns.1 s.nodes.length r.ns.2] rfl _ rfl Ca3 (by kernel_rfl) rfl rfl rfl ?_; intro wb X3 Ob; have X5 := Ca5.only Ob (Nat.succ_ne_self _); have X6 := Ca6.only Ob (by show ¬ w.heap.size + 1 + 1 = w.heap.size; omega); have DX := Da.trans (Ob.below Da.size fun j hj e => Nat.lt_irrefl _ ((show j = w.heap.size from e) ▸ hj))
       have SX := Ra.only Ob fun b o e _ => by
         intro e2
         injection e with e; injection e with e3 e4
         have e2' : b = w.heap.size := e2
         have := C3.lt
         omega
       have RX := Rb.only Ob fun b o e _ => by
         intro e2
         injection e with e; injection e with e3 e4
         have e2' : b = w.heap.size := e2
         have := B3.lt
         omega)
    | (go_at_call 134; refine (HO2.out w4 D4).mono ?_; rintro e wa ⟨g5, c5, rfl, Ra, hba, hg5⟩; clear y6 k4; have Ca3 := C3.below' hba; have Ca5 := C5.below' hba; have Ca6 := C6.below' hba; have Da := D4.trans (hba.mono D4.size); have Rb := R4.below hba))
  have l5 := E3.lt
  refine wp_region_J (l := [_, _, _, _, _, _, _, _, _, _, _]) (BegG w5 w.heap.size (opRows s.ops) s.ops.length (fun v : Value => #[.int .i64 s.c.threads, .int .i64 s.c.buckets, .int .i64 s.c.inserts, .int .i64 s.c.fuel, .int .i64 s.c.calls, .slice (some ⟨g1, 0, none⟩) s.thr.length c1, .slice (some ⟨g5, 0, none⟩) s.thr.length c5, .slice r.ms.1 s.thr.length r.ms.2, v, .slice r.ns.1 s.nodes.length r.ns.2]) (.slice r.os.1 s.ops.length r.os.2) (i * s.c.calls + t.calls) (⟨1, key, val, limit⟩ : GCall)) (by kernel_rfl) (by kernel_rfl) (fun us => BegG.start us E3) ⟨?_, ?_, ?_, ?_, ?_, ?_, ?_, ?_, ?_, ?_, ?_, trivial⟩ ?_
  · intro dn us w6 A hev hy hG hdn hdep K hK
    rw [if_pos (by rfl)]
    unfold Oper.wp execOp
    go_simp
    have hG' := hG.alloc (.cells #[] 93)
    refine hK _ _ ⟨hG'.only, hG'.d108, hG'.d83, hG'.d32, hG'.book, hG'.book', fun _ => ⟨w6.heap.size, rfl, hG.only.size, by rw [World.size_alloc]; omega, fun _ => World.ownsRow_lit w6 #[] 0 hG.only.size (by unfold maxLen; omega) rfl⟩, hG'.f1, hG'.f2, hG'.f3, hG'.f4, hG'.f5, hG'.f6, fun e => ?_, hG'.f8, hG'.f9⟩
    obtain ⟨g, a1, a2, a3, a4, a5⟩ := hG.f7 e
    refine ⟨g, a1, a2, by rw [World.size_alloc]; omega, fun q => (a4 q).below ((Below.refl _ w6).alloc (Nat.le_refl _) _), fun _ a b e2 => ?_⟩
    have e2' : Value.slice (some ⟨w6.heap.size, 0, none⟩) 0 0 = .slice (some ⟨g, 0, none⟩) a b := e2
    injection e2' with e2'
    injection e2' with e2'
    injection e2' with e2'
    omega
  · intro dn us w6 A hev hy hG hdn hdep K hK
    rw [if_pos (by rfl)]
    unfold Oper.wp execOp
    have e3 : A.eval (.tmp 3) = .pointer (some ⟨w.heap.size, 0, none⟩) := by rw [hev]; rfl
    simp only [e3]
    go_simp
    exact hK _ _ ⟨hG.only, hG.d108, hG.d83, hG.d32, hG.book, hG.book', hG.f0, fun _ => rfl, hG.f2, hG.f3, hG.f4, hG.f5, hG.f6, hG.f7, hG.f8, hG.f9⟩
  · intro dn us w6 A hev hy hG hdn hdep K hK
    have d1 : dn 1 = true := allD_mem hdep (by decide)
    have d10 : dn 10 = false := by
      cases q : dn 10 with
      | false => rfl
      | true => rw [hG.d32 (hG.d83 (hG.d108 q))] at hdn; cases hdn
    rw [if_pos (by rfl)]
    unfold Oper.wp execOp
    have e71 : A.eval (.tmp 71) = .pointer (some ⟨w.heap.size, 8, none⟩) := by rw [hev]; exact hG.f1 d1
    have c8 : w6.cell? ⟨w.heap.size, 8, none⟩ = some (.slice r.os.1 s.ops.length r.os.2) := (hG.book d10).cell 8
    simp only [e71]
    go_simp
    exact hK _ _ ⟨hG.only, hG.d108, hG.d83, fun _ => rfl, hG.book, hG.book', hG.f0, hG.f1, fun _ => rfl, hG.f3, hG.f4, hG.f5, hG.f6, hG.f7, hG.f8, hG.f9⟩
  · intro dn us w6 A hev hy hG hdn hdep K hK
    have d0 : dn 0 = true := allD_mem hdep (by decide)
    have d2 : dn 2 = true := allD_mem hdep (by decide)
    obtain ⟨g, u0, gb, gl, own⟩ := hG.f0 d0
    have e70 : A.eval (.tmp 70) = .slice (some ⟨g, 0, none⟩) 0 0 := by rw [hev]; exact u0
    have e72 : A.eval (.tmp 72) = .slice r.os.1 s.ops.length r.os.2 := by rw [hev]; exact hG.f2 d2
    have d8 : dn 8 = false := by
      cases q : dn 8 with
      | false => rfl
      | true => rw [hG.d83 q] at hdn; cases hdn
    have d10 : dn 10 = false := by
      cases q : dn 10 with
      | false => rfl
      | true => rw [hG.d108 q] at d8; cases d8
    refine step_app rfl (.tmp 70) (.tmp 72) 40 rfl w5.heap.size 93 i0 _ 5 40 Tryz.underlying40 hi0 hz0 hz1 hz2 rfl (by decide) e70 (own hdn) e72 (opRows_len s.ops) (HOs.out.1.below (D5.trans (hG.only.below D5.size fun j hj e => Nat.lt_irrefl _ ((show j = w.heap.size from e) ▸ hj)))) (fun e _ => by rw [HOs.out.2 (List.eq_nil_of_length_eq_zero e)]) (opRows_one _) (by unfold maxLen; omega) (by omega) hG.only.size ?_
    intro g' k' w7 R Gr g'b
    rw [Nat.zero_add, List.nil_append] at R
    rw [Nat.zero_add]
    refine hK _ _ ⟨only_grown hG.only Gr gb, fun e => ?_, fun _ => rfl, fun _ => d2, fun e => (hG.book d10).grown Gr (by omega), fun e => ?_, fun _ => ⟨g, u0, gb, Nat.lt_of_lt_of_le gl Gr.size, fun q => (nomatch (show true = false from q))⟩, hG.f1, hG.f2, fun _ => ⟨g', k', rfl, g'b, fun _ => R⟩, hG.f4, hG.f5, hG.f6, fun e => ?_, fun e => ?_, hG.f9⟩
    · exact hG.d108 e
    · rw [show dn 10 = true from e] at d10; cases d10
    · obtain ⟨g7, a1, a2, a3, a4, a5⟩ := hG.f7 e
      refine ⟨g7, a1, a2, Nat.lt_of_lt_of_le a3 Gr.size, fun q => (a4 q).grown Gr fun e2 => a5 d0 0 0 (by rw [u0, e2]), a5⟩
    · rw [show dn 8 = true from e] at d8; cases d8
  · intro dn us w6 A hev hy hG hdn hdep K hK
    rw [if_pos (by rfl)]
    unfold Oper.wp execOp
    have e10 : A.eval (.tmp 10) = .int .i64 (i * s.c.calls + t.calls) := by rw [hev]; rfl
    simp only [e10]
    go_simp
    exact hK _ _ ⟨hG.only, hG.d108, hG.d83, hG.d32, hG.book, hG.book', hG.f0, hG.f1, hG.f2, hG.f3, fun _ => rfl, hG.f5, hG.f6, hG.f7, hG.f8, hG.f9⟩
  · intro dn us w6 A hev hy hG hdn hdep K hK
    have e5 : A.eval (.tmp 5) = .pointer (some ⟨w.heap.size + 1, 0, none⟩) := by rw [hev]; rfl
    refine step_list (wpl_ld rfl 28 (.tmp 5) rfl (GCall.arr ⟨1, key, val, limit⟩) e5 _ (E5.only hG.only (Nat.succ_ne_self _)) Tryz.underlying28 rfl (by kernel_rfl) rfl ⟨rfl, ?_⟩)
    exact hK _ _ ⟨hG.only, hG.d108, hG.d83, hG.d32, hG.book, hG.book', hG.f0, hG.f1, hG.f2, hG.f3, hG.f4, fun _ => rfl, hG.f6, hG.f7, hG.f8, hG.f9⟩
  · intro dn us w6 A hev hy hG hdn hdep K hK
    have d4 : dn 4 = true := allD_mem hdep (by decide)
    have d5 : dn 5 = true := allD_mem hdep (by decide)
    rw [if_pos (by rfl)]
    unfold Oper.wp execOp
    have e74 : A.eval (.tmp 74) = .int .i64 (i * s.c.calls + t.calls) := by rw [hev]; exact hG.f4 d4
    have e75 : A.eval (.tmp 75) = .agg (GCall.arr ⟨1, key, val, limit⟩) := by rw [hev]; exact hG.f5 d5
    generalize A.eval = ev at e74 e75 ⊢
    go_simp
    exact hK _ _ ⟨hG.only, hG.d108, hG.d83, hG.d32, hG.book, hG.book', hG.f0, hG.f1, hG.f2, hG.f3, hG.f4, hG.f5, fun _ => rfl, hG.f7, hG.f8, hG.f9⟩
  · intro dn us w6 A hev hy hG hdn hdep K hK
    have d6 : dn 6 = true := allD_mem hdep (by decide)
    rw [if_pos (by rfl)]
    unfold Oper.wp execOp
    have e76 : A.eval (.tmp 76) = .agg (opRow ((i * s.c.calls + t.calls), (⟨1, key, val, limit⟩ : GCall))).toArray := by rw [hev]; exact hG.f6 d6
    unfold opRow at e76
    generalize A.eval = ev at e76 ⊢
    go_simp
    have hG' := hG.alloc (.cells (opRow ((i * s.c.calls + t.calls), (⟨1, key, val, limit⟩ : GCall))).toArray 93)
    refine hK _ _ ⟨hG'.only, hG'.d108, hG'.d83, hG'.d32, hG'.book, hG'.book', hG'.f0, hG'.f1, hG'.f2, hG'.f3, hG'.f4, hG'.f5, hG'.f6, fun e => ⟨w6.heap.size, rfl, hG.only.size, by rw [World.size_alloc]; omega, fun _ => readAt_row (World.ownsRow_lit (base := 0) (size := 5) w6 (opRow ((i * s.c.calls + t.calls), (⟨1, key, val, limit⟩ : GCall))).toArray 1 (Nat.zero_le _) (by unfold maxLen; omega) rfl), fun d0 a b e2 => ?_⟩, hG'.f8, hG'.f9⟩
    obtain ⟨g, a1, a2, a3, _⟩ := hG.f0 d0
    have e2' : us 0 = .slice (some ⟨w6.heap.size, 0, none⟩) a b := e2
    rw [a1] at e2'
    injection e2' with e2'
    injection e2' with e2'
    injection e2' with e2'
    omega
  · intro dn us w6 A hev hy hG hdn hdep K hK
    have d3 : dn 3 = true := allD_mem hdep (by decide)
    have d7 : dn 7 = true := allD_mem hdep (by decide)
    obtain ⟨g, kk, u3, gb, own⟩ := hG.f3 d3
    obtain ⟨g7, u7, a2, a3, a4, a5⟩ := hG.f7 d7
    have e73 : A.eval (.tmp 73) = .slice (some ⟨g, 0, none⟩) s.ops.length kk := by rw [hev]; exact u3
    have e77 : A.eval (.tmp 77) = .slice (some ⟨g7, 0, none⟩) 1 1 := by rw [hev]; exact u7
    have d10 : dn 10 = false := by
      cases q : dn 10 with
      | false => rfl
      | true => rw [hG.d108 q] at hdn; cases hdn
    refine step_app rfl (.tmp 73) (.tmp 77) 40 rfl w5.heap.size 93 i0 _ 5 40 Tryz.underlying40 hi0 hz0 hz1 hz2 rfl (by decide) e73 (own hdn) e77 (show (opRow ((i * s.c.calls + t.calls), (⟨1, key, val, limit⟩ : GCall))).length = 1 * 5 from rfl) (a4 hdn) (fun e _ => by omega) (opRow_one _) (by unfold maxLen; omega) (by omega) hG.only.size ?_
    intro g' k' w7 R Gr g'b
    refine hK _ _ ⟨only_grown hG.only Gr gb, fun _ => rfl, fun _ => d3, hG.d32, fun e => (hG.book d10).grown Gr (by omega), fun e => ?_, fun e => ?_, hG.f1, hG.f2, fun _ => ⟨g, kk, u3, gb, fun q => (nomatch (show true = false from q))⟩, hG.f4, hG.f5, hG.f6, fun e => ⟨g7, u7, a2, Nat.lt_of_lt_of_le a3 Gr.size, fun q => (nomatch (show true = false from q)), a5⟩, fun _ => ⟨g', k', rfl, g'b, R⟩, hG.f9⟩
    · rw [show dn 10 = true from e] at d10; cases d10
    · obtain ⟨g0, b1, b2, b3, b4⟩ := hG.f0 e
      exact ⟨g0, b1, b2, Nat.lt_of_lt_of_le b3 Gr.size, fun q => by rw [show dn 3 = false from q] at d3; cases d3⟩
  · intro dn us w6 A hev hy hG hdn hdep K hK
    rw [if_pos (by rfl)]
    unfold Oper.wp execOp
    have e3 : A.eval (.tmp 3) = .pointer (some ⟨w.heap.size, 0, none⟩) := by rw [hev]; rfl
    simp only [e3]
    go_simp
    exact hK _ _ ⟨hG.only, hG.d108, hG.d83, hG.d32, hG.book, hG.book', hG.f0, hG.f1, hG.f2, hG.f3, hG.f4, hG.f5, hG.f6, hG.f7, hG.f8, fun _ => rfl⟩
  · intro dn us w6 A hev hy hG hdn hdep K hK
    have d8 : dn 8 = true := allD_mem hdep (by decide)
    have d9 : dn 9 = true := allD_mem hdep (by decide)
    obtain ⟨g, kk, u8, gb, own⟩ := hG.f8 d8
    have e79 : A.eval (.tmp 79) = .pointer (some ⟨w.heap.size, 8, none⟩) := by rw [hev]; exact hG.f9 d9
    have e78 : A.eval (.tmp 78) = .slice (some ⟨g, 0, none⟩) (s.ops.length + 1) kk := by rw [hev]; exact u8
    refine step_list (wpl_st rfl 40 (.tmp 79) (.tmp 78) rfl ((fun v : Value => #[.int .i64 s.c.threads, .int .i64 s.c.buckets, .int .i64 s.c.inserts, .int .i64 s.c.fuel, .int .i64 s.c.calls, .slice (some ⟨g1, 0, none⟩) s.thr.length c1, .slice (some ⟨g5, 0, none⟩) s.thr.length c5, .slice r.ms.1 s.thr.length r.ms.2, v, .slice r.ns.1 s.nodes.length r.ns.2]) (.slice (some ⟨g, 0, none⟩) (s.ops.length + 1) kk)) e79 _ e78 (hG.book hdn) (by kernel_rfl) rfl rfl rfl fun w7 A7 O7 => ⟨rfl, ?_⟩)
    have hO := hG.only.trans O7
    refine hK _ _ ⟨hO, fun _ => d8, hG.d83, hG.d32, fun q => (nomatch (show true = false from q)), fun _ => by show At w7 _ _ ((fun v : Value => #[.int .i64 s.c.threads, .int .i64 s.c.buckets, .int .i64 s.c.inserts, .int .i64 s.c.fuel, .int .i64 s.c.calls, .slice (some ⟨g1, 0, none⟩) s.thr.length c1, .slice (some ⟨g5, 0, none⟩) s.thr.length c5, .slice r.ms.1 s.thr.length r.ms.2, v, .slice r.ns.1 s.nodes.length r.ns.2]) (us 8)); rw [u8]; exact A7, fun e => ?_, hG.f1, hG.f2, fun e => ?_, hG.f4, hG.f5, hG.f6, fun e => ?_, fun e => ⟨g, kk, u8, gb, ownsRow_only own O7 (by show ¬ g = w.heap.size; omega)⟩, hG.f9⟩
    · obtain ⟨g0, b1, b2, b3, b4⟩ := hG.f0 e
      exact ⟨g0, b1, b2, Nat.lt_of_lt_of_le b3 O7.size, fun q => ownsRow_only (b4 q) O7 (by show ¬ g0 = w.heap.size; omega)⟩
    · obtain ⟨g0, k0, b1, b2, b4⟩ := hG.f3 e
      exact ⟨g0, k0, b1, b2, fun q => ownsRow_only (b4 q) O7 (by show ¬ g0 = w.heap.size; omega)⟩
    · obtain ⟨g0, b1, b2, b3, b4, b5⟩ := hG.f7 e
      exact ⟨g0, b1, b2, Nat.lt_of_lt_of_le b3 O7.size, fun q => (by rw [show dn 8 = false from q] at d8; cases d8), b5⟩
  intro dn us w7 hG hall
  obtain ⟨g2, c2, u8, g2b, R8⟩ := hG.f8 (hall 8 (by decide))
  have F3 := hG.book' (hall 10 (by decide))
  rw [u8] at F3
  have F6 : At w7 (w.heap.size + 1 + 1) 43 zero10 := E6.only hG.only (by show ¬ w.heap.size + 1 + 1 = w.heap.size; omega)
  have D7 := D5.trans (hG.only.below D5.size fun j hj e => Nat.lt_irrefl _ ((show j = w.heap.size from e) ▸ hj))
  have R7 := R5.only hG.only fun b o e _ => by
    intro e2
    injection e with e; injection e with e3 e4
    have e2' : b = w.heap.size := e2
    have := B3.lt
    omega
  have S7 := S5.only hG.only fun b o e _ => by
    intro e2
    injection e with e; injection e with e3 e4
    have e2' : b = w.heap.size := e2
    have := C3.lt
    omega
  simp only [fillA, fillT, Nat.reduceAdd, List.setIfInBounds_toArray, List.set_cons_zero, List.set_cons_succ]
  clear hG hall u8
  go_wp2_with (first
    | (refine wpl_st rfl 43 _ _ rfl #[.int .i64 s.c.threads, .int .i64 s.c.buckets, .int .i64 s.c.inserts, .int .i64 s.c.fuel, .int .i64 s.c.calls, .slice (some ⟨g1, 0, none⟩) s.thr.length c1, .slice (some ⟨g5, 0, none⟩) s.thr.length c5, .slice r.ms.1 s.thr.length r.ms.2, .slice (some ⟨g2, 0, none⟩) (s.ops.length + 1) c2, .slice r.ns.1 s.nodes.length r.ns.2] rfl _ rfl F6 (by kernel_rfl) rfl rfl rfl ?_; intro w8 A8 O8)
    | (refine wpl_ld rfl 43 _ rfl #[.int .i64 s.c.threads, .int .i64 s.c.buckets, .int .i64 s.c.inserts, .int .i64 s.c.fuel, .int .i64 s.c.calls, .slice (some ⟨g1, 0, none⟩) s.thr.length c1, .slice (some ⟨g5, 0, none⟩) s.thr.length c5, .slice r.ms.1 s.thr.length r.ms.2, .slice (some ⟨g2, 0, none⟩) (s.ops.length + 1) c2, .slice r.ns.1 s.nodes.length r.ns.2] rfl _ F3 Tryz.underlying43 rfl (by kernel_rfl) rfl ?_))
  have D8 := D7.trans (O8.below D7.size fun j hj e => by have e' : j = w.heap.size + 1 + 1 := e; omega)
  have l56 := E6.lt
  have q1 := R7.only O8 fun b o e _ => by
    intro e2
    injection e with e; injection e with e3 e4
    have e2' : b = w.heap.size + 1 + 1 := e2
    have := B6.lt
    omega
  have q5 := S7.only O8 fun b o e _ => by
    intro e2
    injection e with e; injection e with e3 e4
    have e2' : b = w.heap.size + 1 + 1 := e2
    have := C6.lt
    omega
  have q2 := (readAt_row R8).only O8 fun b o e _ => by
    intro e2
    injection e with e; injection e with e3 e4
    have e2' : b = w.heap.size + 1 + 1 := e2
    omega
  exact bodyPost_ret (v := .tuple #[.agg #[.int .i64 s.c.threads, .int .i64 s.c.buckets, .int .i64 s.c.inserts, .int .i64 s.c.fuel, .int .i64 s.c.calls, .slice (some ⟨g1, 0, none⟩) s.thr.length c1, .slice (some ⟨g5, 0, none⟩) s.thr.length c5, .slice r.ms.1 s.thr.length r.ms.2, .slice (some ⟨g2, 0, none⟩) (s.ops.length + 1) c2, .slice r.ns.1 s.nodes.length r.ns.2], .int .i64 (i * s.c.calls + t.calls), .int .i64 0]) (res_cell_tmp2 (fn := Tryz.f63) Tryz.results63 _ _ (w.heap.size + 1 + 1) _ _ rfl A8 Tryz.underlying43 rfl (by kernel_rfl)) rfl ⟨g1, c1, g5, c5, g2, c2, rfl, q1, q5, q2, D8, by have := D1.size; omega, by have := D4.size; omega, by have := D5.size; omega⟩
end Go.Proofs.YtccmjljlfgbicaaGreat

/- Contract of corrieref07.Begin, whole. -/
namespace Go.Proofs.YtccmjljlfgbicaaGreat
open Go.ChangeShapes Go.WideShapes Go.ChangeAt Go.RowKit

theorem thr_map {l : List Thr} {i : Nat} {t t' : Thr} (ht : l[i]? = some t) (f : Thr → Int) (hf : f t' = f t) : (l.set i t').map f = l.map f := by
  have hi : i < l.length := (List.getElem?_eq_some_iff.1 ht).1
  rw [List.map_set, hf]
  apply List.ext_getElem?
  intro j
  by_cases hj : i = j
  · subst hj; rw [List.getElem?_set_self (by simpa using hi)]; simp [ht]
  · rw [List.getElem?_set_ne hj]
theorem rows_snoc {w : World} {g : Nat} {l : List (Int × GCall)} {p : Int × GCall} (h : ReadAt w (some ⟨g, 0, none⟩) (opRows l ++ opRow p)) : ReadAt w (some ⟨g, 0, none⟩) (opRows (l ++ [p])) := by
  unfold opRows at *
  rw [List.flatMap_append]
  simpa using h

/-- corrieref07.Begin. -/
theorem rbegin_any {r : RV} {s : St} (n : Int) (c : GCall) (w : World) (h : BookIn w r s) (hok : s.ok) (hos : s.ops.length ≤ 4090) :
    Calls Tryz.prog 63 #[r.book s, .int .i64 n, c.v] w fun e w' => ∃ r' : RV, e = .returned (.tuple #[r'.book (s.begin n c).1, .int .i64 (s.begin n c).2.1, .int .i64 (s.begin n c).2.2]) ∧ BookIn w' r' (s.begin n c).1 ∧ Below w.heap.size w w' ∧ BookFr w.heap.size r r' := by
  unfold St.begin
  rcases thrAt_cases s.thr n with ⟨i, t, rfl, hi, ht, hta⟩ | ⟨hta, hn⟩
  · rw [hta]
    dsimp only
    split
    · rename_i hk
      exact (rbegin_kind (r := r) (s := s) i c w (by unfold inTop; simp; omega) hk).mono fun e w' ⟨a, b⟩ => ⟨r, a, h.below b, b, BookFr.refl _ _⟩
    rename_i hk
    have hk' : 1 ≤ c.kind ∧ c.kind ≤ 4 := by omega
    split
    · rename_i hf
      exact (rbegin_retired i t c w h hok ht hk' hf).mono fun e w' ⟨a, b⟩ => ⟨r, a, h.below b, b, BookFr.refl _ _⟩
    rename_i hf
    have ei : ((i : Int)).toNat = i := rfl
    split
    · rename_i hki
      obtain ⟨kind, key, val, limit⟩ := c
      obtain ⟨rfl, hin⟩ := hki
      refine (rbegin_full i t key val limit w h hok ht hf hin).mono fun e w' ⟨g1, c1, a, b1, b3, l1⟩ => ⟨{ r with cs := (some ⟨g1, 0, none⟩, c1) }, ?_, ?_, b3, ⟨.inr ⟨g1, rfl, l1⟩, .inl rfl, .inl rfl, .inl rfl, .inl rfl⟩⟩
      · rw [a]
        simp [RV.book]
      · have hb := h.below b3
        refine ⟨?_, ?_, ?_, hb.os, hb.ns, hb.os0, hb.ns0⟩
        · show ReadAt w' (some ⟨g1, 0, none⟩) (intsV ((s.thr.set i { t with calls := t.calls + 1 }).map Thr.calls))
          rw [List.map_set]; exact b1
        · show ReadAt w' r.is.1 (intsV ((s.thr.set i { t with calls := t.calls + 1 }).map Thr.inserts))
          rw [thr_map (t' := { t with calls := t.calls + 1 }) ht Thr.inserts rfl]; exact hb.is
        · show ReadAt w' r.ms.1 (intsV ((s.thr.set i { t with calls := t.calls + 1 }).map Thr.made))
          rw [thr_map (t' := { t with calls := t.calls + 1 }) ht Thr.made rfl]; exact hb.ms
    rename_i hki
    by_cases hk1 : c.kind = 1
    · obtain ⟨kind, key, val, limit⟩ := c
      have hk1' : kind = 1 := hk1
      subst hk1'
      have hin : t.inserts ≠ s.c.inserts := fun e => hki ⟨rfl, e⟩
      refine (rbegin_insert i t key val limit w h hok hos ht hf hin).mono fun e w' ⟨g1, c1, g5, c5, g2, c2, a, b1, b5, b2, b3, l1, l5, l2⟩ => ⟨{ r with cs := (some ⟨g1, 0, none⟩, c1), is := (some ⟨g5, 0, none⟩, c5), os := (some ⟨g2, 0, none⟩, c2) }, ?_, ?_, b3, ⟨.inr ⟨g1, rfl, l1⟩, .inr ⟨g5, rfl, l5⟩, .inl rfl, .inr ⟨g2, rfl, l2⟩, .inl rfl⟩⟩
      · rw [a]
        simp [RV.book]
      · have hb := h.below b3
        refine ⟨?_, ?_, ?_, rows_snoc b2, hb.ns, fun e => absurd e (by simp), hb.ns0⟩
        · show ReadAt w' (some ⟨g1, 0, none⟩) (intsV ((s.thr.set i _).map Thr.calls))
          rw [List.map_set]; exact b1
        · show ReadAt w' (some ⟨g5, 0, none⟩) (intsV ((s.thr.set i { t with calls := t.calls + 1, inserts := if (1 : Int) = 1 then t.inserts + 1 else t.inserts }).map Thr.inserts))
          rw [List.map_set]; exact b5
        · show ReadAt w' r.ms.1 (intsV ((s.thr.set i { t with calls := t.calls + 1, inserts := if (1 : Int) = 1 then t.inserts + 1 else t.inserts }).map Thr.made))
          rw [thr_map (t' := { t with calls := t.calls + 1, inserts := if (1 : Int) = 1 then t.inserts + 1 else t.inserts }) ht Thr.made rfl]; exact hb.ms
    · refine (rbegin_other i t c w h hok hos ht hk' hf hk1).mono fun e w' ⟨g1, c1, g2, c2, a, b1, b2, b3, l1, l2⟩ => ⟨{ r with cs := (some ⟨g1, 0, none⟩, c1), os := (some ⟨g2, 0, none⟩, c2) }, ?_, ?_, b3, ⟨.inr ⟨g1, rfl, l1⟩, .inl rfl, .inl rfl, .inr ⟨g2, rfl, l2⟩, .inl rfl⟩⟩
      · rw [a]
        simp [RV.book]
      · have hb := h.below b3
        refine ⟨?_, ?_, ?_, rows_snoc b2, hb.ns, fun e => absurd e (by simp), hb.ns0⟩
        · show ReadAt w' (some ⟨g1, 0, none⟩) (intsV ((s.thr.set i _).map Thr.calls))
          rw [List.map_set]; exact b1
        · show ReadAt w' r.is.1 (intsV ((s.thr.set i { t with calls := t.calls + 1, inserts := if c.kind = 1 then t.inserts + 1 else t.inserts }).map Thr.inserts))
          rw [thr_map (t' := { t with calls := t.calls + 1, inserts := if c.kind = 1 then t.inserts + 1 else t.inserts }) ht Thr.inserts (by simp [hk1])]; exact hb.is
        · show ReadAt w' r.ms.1 (intsV ((s.thr.set i { t with calls := t.calls + 1, inserts := if c.kind = 1 then t.inserts + 1 else t.inserts }).map Thr.made))
          rw [thr_map (t' := { t with calls := t.calls + 1, inserts := if c.kind = 1 then t.inserts + 1 else t.inserts }) ht Thr.made rfl]; exact hb.ms
  · rw [hta]
    exact (rbegin_thread (r := r) (s := s) n c w (by unfold inTop; simp; omega)).mono fun e w' ⟨a, b⟩ => ⟨r, a, h.below b, b, BookFr.refl _ _⟩
end Go.Proofs.YtccmjljlfgbicaaGreat

/- Contract of corrieref08.New: the document's world is made. -/
namespace Go.Proofs.YtccmjljlfgbicaaGreat
open Go.ChangeShapes Go.WideShapes Go.ChangeAt Go.RowKit

/-- What is kept in the last region. -/
structure WNG (W : World) (B : Nat) (c : Conf) (r : RV) (dn : Nat → Bool) (us : Nat → Value) (w : World) : Prop where
  only : Only (fun j => j = B + 1) W w
  t2 : dn 6 = false → At w (B + 1) 45 zero17
  t2' : dn 6 = true → ∃ ao cap, At w (B + 1) 45 (RV.cells { r with w := (ao, cap) } (St.new c)) ∧ ReadAt w ao (wordsV (St.new c).words) ∧ Fr (B + 2) none ao
  f0 : dn 0 = true → us 0 = .agg c.cells
  f1 : dn 1 = true → us 1 = .agg c.cells
  f2 : dn 2 = true → us 2 = .int .i64 ((St.new c).words.length : Int)
  f3 : dn 3 = true → ∃ ao cap, us 3 = cv (ao, cap) (St.new c).words 0 ∧ ReadAt w ao (wordsV (St.new c).words) ∧ Fr (B + 2) none ao
  f4 : dn 4 = true → us 4 = .agg (r.bcells (St.new c))
  f5 : dn 5 = true → ∃ ao cap, us 5 = .agg (RV.cells { r with w := (ao, cap) } (St.new c)) ∧ ReadAt w ao (wordsV (St.new c).words) ∧ Fr (B + 2) none ao
  f7 : dn 7 = true → us 7 = .int .i64 0

theorem fr_next {B : Nat} {ao : Option Addr} (h : Fr (B + 2) none ao) : ∀ b o, ao = some ⟨b, o, none⟩ → ¬ b = B + 1 :=
  h.off (N := fun b => b = B + 1) (fun _ _ e => (by cases e)) fun b e => by have e' : b = B + 1 := e; omega
theorem WNG.below {W w w' : World} {B : Nat} {c : Conf} {r : RV} {dn : Nat → Bool} {us : Nat → Value} (h : WNG W B c r dn us w) (hb : Below w.heap.size w w') : WNG W B c r dn us w' := by
  refine ⟨h.only.trans (below_only hb), fun e => (h.t2 e).below' hb, fun e => ?_, h.f0, h.f1, h.f2, fun e => ?_, h.f4, fun e => ?_, h.f7⟩
  · obtain ⟨ao, cap, a, b, d⟩ := h.t2' e
    exact ⟨ao, cap, a.below' hb, b.below hb, d⟩
  · obtain ⟨ao, cap, a, b, d⟩ := h.f3 e
    exact ⟨ao, cap, a, b.below hb, d⟩
  · obtain ⟨ao, cap, a, b, d⟩ := h.f5 e
    exact ⟨ao, cap, a, b.below hb, d⟩

set_option maxRecDepth 100000 in
set_option maxHeartbeats 1000000 in
theorem rwnew_any (c : Conf) (w : World) (hm : c.may = true) :
    Calls Tryz.prog 62 #[c.val] w fun e w' => ∃ r : RV, e = .returned (.tuple #[r.val (St.new c), .int .i64 0]) ∧ RefIn w' r (St.new c) ∧ Below w.heap.size w w' ∧ Fr w.heap.size none r.w.1 ∧ BookFr w.heap.size ⟨(none, 0), (none, 0), (none, 0), (none, 0), (none, 0), (none, 0)⟩ r := by
  have hlen : ((St.new c).words.length : Int) = c.nodes + c.ops + c.threads := (ok_new hm).len
  have hmb := may_bounds hm
  have hnb := nodes_bounds hm
  have hob := ops_bounds c
  have HM := Lib.hid hm
  have HL := Lib.hid (And.intro hlen (And.intro hmb (And.intro hnb hob)))
  clear hm hmb hnb hob hlen
  have A1 := (At.new w 35 c.cells).alloc (.cells zero17 45)
  have A2 := At.new1 w (.cells c.cells 35) 45 zero17
  go_enter Tryz.func62, Tryz.ntmps62
  go_wp2_with (first
    | (refine wpl_st rfl 43 _ _ rfl (r.bcells (St.new c)) rfl _ rfl (At.new w1 _ _) (by kernel_rfl) rfl rfl rfl ?_; intro w2 C4 O4)
    | (go_at_call 130; refine (rbnew_any c _ HM.out).mono ?_; rintro e w1 ⟨r, rfl, hB, hb1, hfr⟩; have B1 := A1.below' hb1; have B2 := A2.below' hb1; have D1 := (below_twice w (.cells c.cells 35) (.cells zero17 45)).trans (hb1.mono (by simp; omega)))
    | (refine wpl_ld rfl 35 _ rfl c.cells rfl _ A1 Tryz.underlying35 rfl (by kernel_rfl) rfl ?_))
  have l1 := B1.lt
  have l2 := B2.lt
  have E1 : At w2 w.heap.size 35 c.cells := (B1.alloc _).only O4 (by show ¬ w.heap.size = w1.heap.size; omega)
  have E2 : At w2 (w.heap.size + 1) 45 zero17 := (B2.alloc _).only O4 (by show ¬ w.heap.size + 1 = w1.heap.size; omega)
  have D2 : Below w1.heap.size w1 w2 := ((Below.refl _ w1).alloc (Nat.le_refl _) _).trans (O4.below (by simp) fun j hj e => by have e' : j = w1.heap.size := e; omega)
  have hB2 := hB.below D2
  have D2' := D1.trans (D2.mono D1.size)
  have hrep : List.replicate (St.new c).words.length 0 = (St.new c).words := by simp [St.new]
  have off : ∀ (a : Option Addr), Fr (((w.alloc (.cells c.cells 35)).alloc (.cells zero17 45)).heap.size) none a → ∀ b o, a = some ⟨b, o, none⟩ → b ≠ w.heap.size + 1 := by
    rintro a (rfl | ⟨g, rfl, hg⟩) b o e
    · cases e
    · injection e with e
      injection e with e1 e2
      simp at hg
      omega
  refine wp_region_J (l := [_, _, _, _, _, _, _, _]) (WNG w2 w.heap.size c r) (by kernel_rfl) (by kernel_rfl) (fun us => ⟨⟨rfl, rfl, rfl, Nat.le_refl _, fun _ _ _ => rfl⟩, fun _ => E2, fun e => (by cases e), fun e => (by cases e), fun e => (by cases e), fun e => (by cases e), fun e => (by cases e), fun e => (by cases e), fun e => (by cases e), fun e => (by cases e)⟩) ⟨?_, ?_, ?_, ?_, ?_, ?_, ?_, ?_, trivial⟩ ?_
  · intro dn us w6 A hev hy hG hdn hdep K hK
    have e1 : A.eval (.tmp 1) = .pointer (some ⟨w.heap.size, 0, none⟩) := by rw [hev]; rfl
    refine step_list (wpl_ld rfl 35 (.tmp 1) rfl c.cells e1 _ (E1.only hG.only (by show ¬ w.heap.size = w.heap.size + 1; omega)) Tryz.underlying35 rfl (by kernel_rfl) rfl ⟨rfl, ?_⟩)
    exact hK _ _ ⟨hG.only, hG.t2, hG.t2', fun _ => rfl, hG.f1, hG.f2, hG.f3, hG.f4, hG.f5, hG.f7⟩
  · intro dn us w6 A hev hy hG hdn hdep K hK
    have e1 : A.eval (.tmp 1) = .pointer (some ⟨w.heap.size, 0, none⟩) := by rw [hev]; rfl
    refine step_list (wpl_ld rfl 35 (.tmp 1) rfl c.cells e1 _ (E1.only hG.only (by show ¬ w.heap.size = w.heap.size + 1; omega)) Tryz.underlying35 rfl (by kernel_rfl) rfl ⟨rfl, ?_⟩)
    exact hK _ _ ⟨hG.only, hG.t2, hG.t2', hG.f0, fun _ => rfl, hG.f2, hG.f3, hG.f4, hG.f5, hG.f7⟩
  · intro dn us w6 A hev hy hG hdn hdep K hK
    have d1 : dn 1 = true := allD_mem hdep (by decide)
    have e16 : A.eval (.tmp 16) = .agg c.cells := by rw [hev]; exact hG.f1 d1
    have ef : A.eval (.func 132) = .func (.func 132) #[] #[] := by rw [hev]; rfl
    rw [if_pos (by rfl)]
    unfold Oper.wp execOp
    generalize A.eval = ev at e16 ef ⊢
    go_simp
    refine (rlen_any c _ HM.out).mono ?_
    rintro e w7 ⟨rfl, hb⟩
    have hG' := hG.below hb
    exact hK _ _ ⟨hG'.only, hG'.t2, hG'.t2', hG'.f0, hG'.f1, fun _ => by rw [HL.out.1]; rfl, hG'.f3, hG'.f4, hG'.f5, hG'.f7⟩
  · intro dn us w6 A hev hy hG hdn hdep K hK
    have d2 : dn 2 = true := allD_mem hdep (by decide)
    have e17 : A.eval (.tmp 17) = .int .i64 ((St.new c).words.length : Int) := by rw [hev]; exact hG.f2 d2
    have ef : A.eval (.func 131) = .func (.func 131) #[] #[] := by rw [hev]; rfl
    rw [if_pos (by rfl)]
    unfold Oper.wp execOp
    generalize A.eval = ev at e17 ef ⊢
    go_simp
    refine (rcnew_any (St.new c).words.length _ (by have := HL.out; omega)).mono ?_
    rintro e w7 ⟨ao, cap, rfl, hr, hb, hao⟩
    rw [hrep] at hr ⊢
    have hG' := hG.below hb
    refine hK _ _ ⟨hG'.only, hG'.t2, hG'.t2', hG'.f0, hG'.f1, hG'.f2, fun _ => ⟨ao, cap, rfl, hr, Fr.mono (show Fr _ none ao from hao) (by have := hG.only.size; have := E2.lt; omega)⟩, hG'.f4, hG'.f5, hG'.f7⟩
  · intro dn us w6 A hev hy hG hdn hdep K hK
    have e4 : A.eval (.tmp 4) = .pointer (some ⟨w1.heap.size, 0, none⟩) := by rw [hev]; rfl
    refine step_list (wpl_ld rfl 43 (.tmp 4) rfl (r.bcells (St.new c)) e4 _ (C4.only hG.only (by show ¬ w1.heap.size = w.heap.size + 1; omega)) Tryz.underlying43 rfl (by kernel_rfl) rfl ⟨rfl, ?_⟩)
    exact hK _ _ ⟨hG.only, hG.t2, hG.t2', hG.f0, hG.f1, hG.f2, hG.f3, fun _ => rfl, hG.f5, hG.f7⟩
  · intro dn us w6 A hev hy hG hdn hdep K hK
    have d0 : dn 0 = true := allD_mem hdep (by decide)
    have d3 : dn 3 = true := allD_mem hdep (by decide)
    have d4 : dn 4 = true := allD_mem hdep (by decide)
    obtain ⟨ao, cap, u3, hr, hao⟩ := hG.f3 d3
    have e15 : A.eval (.tmp 15) = .agg c.cells := by rw [hev]; exact hG.f0 d0
    have e18 : A.eval (.tmp 18) = cv (ao, cap) (St.new c).words 0 := by rw [hev]; exact u3
    have e19 : A.eval (.tmp 19) = .agg (r.bcells (St.new c)) := by rw [hev]; exact hG.f4 d4
    rw [if_pos (by rfl)]
    unfold Oper.wp execOp
    generalize A.eval = ev at e15 e18 e19 ⊢
    go_simp
    exact hK _ _ ⟨hG.only, hG.t2, hG.t2', hG.f0, hG.f1, hG.f2, hG.f3, hG.f4, fun _ => ⟨ao, cap, rfl, hr, hao⟩, hG.f7⟩
  · intro dn us w6 A hev hy hG hdn hdep K hK
    have d5 : dn 5 = true := allD_mem hdep (by decide)
    obtain ⟨ao, cap, u5, hr, hao⟩ := hG.f5 d5
    have e2 : A.eval (.tmp 2) = .pointer (some ⟨w.heap.size + 1, 0, none⟩) := by rw [hev]; rfl
    have e20 : A.eval (.tmp 20) = .agg (RV.cells { r with w := (ao, cap) } (St.new c)) := by rw [hev]; exact u5
    refine step_list (wpl_st rfl 45 (.tmp 2) (.tmp 20) rfl (RV.cells { r with w := (ao, cap) } (St.new c)) e2 _ e20 (hG.t2 hdn) (by kernel_rfl) rfl rfl rfl fun w7 A7 O7 => ⟨rfl, ?_⟩)
    refine hK _ _ ⟨hG.only.trans O7, fun q => (nomatch (show true = false from q)), fun _ => ⟨ao, cap, A7, hr.only O7 fun b o e _ => fr_next hao b o e, hao⟩, hG.f0, hG.f1, hG.f2, fun e => ?_, hG.f4, fun e => ?_, hG.f7⟩
    · obtain ⟨ao', cap', a, b, d⟩ := hG.f3 e
      exact ⟨ao', cap', a, b.only O7 fun b o e _ => fr_next d b o e, d⟩
    · obtain ⟨ao', cap', a, b, d⟩ := hG.f5 e
      exact ⟨ao', cap', a, b.only O7 fun b o e _ => fr_next d b o e, d⟩
  · intro dn us w6 A hev hy hG hdn hdep K hK
    have ec : A.eval (.const (.int .i64 0)) = .int .i64 0 := by rw [hev]; rfl
    refine step_list (wpl_move rfl _ (.inr rfl) ⟨rfl, ?_⟩)
    exact hK _ _ ⟨hG.only, hG.t2, hG.t2', hG.f0, hG.f1, hG.f2, hG.f3, hG.f4, hG.f5, fun _ => ec⟩
  intro dn us w7 hG hall
  obtain ⟨ao, cap, A7, hr, hfw⟩ := hG.t2' (hall 6 (by decide))
  have u7 := hG.f7 (hall 7 (by decide))
  have D7 : Below w.heap.size w w7 := D2'.trans (hG.only.below D2'.size fun j hj e => by have e' : j = w.heap.size + 1 := e; omega)
  have hO := hG.only
  have hb7 : BookIn w7 r (St.new c) := ⟨hB2.cs.only hO fun b o e _ => off _ hfr.cs b o e, hB2.is.only hO fun b o e _ => off _ hfr.is b o e, hB2.ms.only hO fun b o e _ => off _ hfr.ms b o e, fun j u hu => by simp [St.new, opRows] at hu, fun j u hu => by simp [St.new, nodeRows] at hu, hB2.os0, hB2.ns0⟩
  simp only [fillA, fillT, Nat.reduceAdd, List.setIfInBounds_toArray, List.set_cons_zero, List.set_cons_succ, u7]
  clear hG hall u7
  go_wp2_with fail
  exact bodyPost_ret (v := .tuple #[RV.val { r with w := (ao, cap) } (St.new c), .int .i64 0]) (res_cell_tmp (fn := Tryz.f62) Tryz.results62 _ _ (w.heap.size + 1) _ _ rfl A7 Tryz.underlying45 rfl (by kernel_rfl)) rfl ⟨{ r with w := (ao, cap) }, rfl, ⟨hr, ⟨hb7.cs, hb7.is, hb7.ms, hb7.os, hb7.ns, hb7.os0, hb7.ns0⟩⟩, D7, hfw.mono (by omega), ⟨hfr.cs.imp id fun ⟨g, a, b⟩ => ⟨g, a, by simp at b; omega⟩, hfr.is.imp id fun ⟨g, a, b⟩ => ⟨g, a, by simp at b; omega⟩, hfr.ms.imp id fun ⟨g, a, b⟩ => ⟨g, a, by simp at b; omega⟩, hfr.os.imp id fun ⟨g, a, b⟩ => ⟨g, a, by simp at b; omega⟩, hfr.ns.imp id fun ⟨g, a, b⟩ => ⟨g, a, by simp at b; omega⟩⟩⟩
end Go.Proofs.YtccmjljlfgbicaaGreat

/- What is kept in a region that calls a function, and lays the struct that it hands back into memory of its own: whatever order is drawn. -/
namespace Go.Proofs.YtccmjljlfgbicaaGreat
open Go.ChangeShapes Go.WideShapes Go.ChangeAt Go.RowKit

/-- k: the call's number; m: how many it hands back; behind it a move, m extracts, an alloc, a store, m - 1 assigns. -/
structure CallG (k m : Nat) (T : TypeId) (zero : Array Value) (F : Nat → Value → Prop) (tup : RV → List Value) (cs : RV → Array Value) (R : RV → World → Prop) (W : World) (dn : Nat → Bool) (us : Nat → Value) (w : World) : Prop where
  only : Only (fun _ => False) W w
  st : dn (k + m + 3) = true → dn (k + m + 2) = true
  pre : ∀ j, j < k → dn j = true → F j (us j)
  call : dn k = true → ∃ ρ, us k = .tuple (tup ρ).toArray ∧ R ρ w ∧ (dn (k + m + 2) = true → ∀ g, us (k + m + 2) = .pointer (some ⟨g, 0, none⟩) → ∀ w', Only (fun j => j = g) w w' → R ρ w')
  mv : dn (k + 1) = true → dn k = true ∧ us (k + 1) = us k
  ext : ∀ i, i < m → dn (k + 2 + i) = true → dn k = true ∧ ∀ ρ, us k = .tuple (tup ρ).toArray → some (us (k + 2 + i)) = (tup ρ)[i]?
  box : dn (k + m + 2) = true → ∃ g, us (k + m + 2) = .pointer (some ⟨g, 0, none⟩) ∧ W.heap.size ≤ g ∧ g < w.heap.size ∧ (dn (k + m + 3) = false → At w g T zero) ∧ (dn (k + m + 3) = true → dn k = true ∧ ∀ ρ, us k = .tuple (tup ρ).toArray → At w g T (cs ρ))
  asg : ∀ i, 1 ≤ i → i < m → dn (k + m + 3 + i) = true → dn k = true ∧ ∀ ρ, us k = .tuple (tup ρ).toArray → some (us (k + m + 3 + i)) = (tup ρ)[i]?

section
variable {k m : Nat} {T : TypeId} {zero : Array Value} {F : Nat → Value → Prop} {tup : RV → List Value} {cs : RV → Array Value} {R : RV → World → Prop} {W w : World} {dn : Nat → Bool} {us : Nat → Value}
theorem CallG.start (us : Nat → Value) : CallG k m T zero F tup cs R W (fun _ => false) us W.drew :=
  ⟨⟨rfl, rfl, rfl, Nat.le_refl _, fun _ _ _ => rfl⟩, fun e => (by cases e), fun _ _ e => (by cases e), fun e => (by cases e), fun e => (by cases e), fun _ _ e => (by cases e), fun e => (by cases e), fun _ _ _ e => (by cases e)⟩
/-- One of the first operations. -/
theorem CallG.first (h : CallG k m T zero F tup cs R W dn us w) {i : Nat} {v : Value} (hi : i < k) (hv : F i v) : CallG k m T zero F tup cs R W (updB dn i) (updN us i v) w := by
  refine ⟨h.only, fun e => (by rw [updB_ne (by omega)] at e ⊢; exact h.st e), fun j hj e => ?_, fun e => ?_, fun e => ?_, fun j hj e => ?_, fun e => ?_, fun j h1 hj e => ?_⟩
  · by_cases q : j = i
    · subst q; rw [updN_eq]; exact hv
    · rw [updB_ne q] at e; rw [updN_ne q]; exact h.pre j hj e
  · rw [updB_ne (by omega)] at e ⊢; rw [updN_ne (by omega), updN_ne (by omega)]; exact h.call e
  · rw [updB_ne (by omega)] at e ⊢; rw [updN_ne (by omega), updN_ne (by omega)]; exact h.mv e
  · rw [updB_ne (by omega)] at e ⊢; rw [updN_ne (by omega), updN_ne (by omega)]; exact h.ext j hj e
  · rw [updB_ne (by omega)] at e ⊢; rw [updB_ne (by omega), updN_ne (by omega), updN_ne (by omega)]; exact h.box e
  · rw [updB_ne (by omega)] at e ⊢; rw [updN_ne (by omega), updN_ne (by omega)]; exact h.asg j h1 hj e
/-- The call. -/
theorem CallG.called (h : CallG k m T zero F tup cs R W dn us w) (hk : dn k = false) {w' : World} {ρ : RV} (hb : Below w.heap.size w w') (hr : R ρ w') (hoff : ∀ g, W.heap.size ≤ g → g < w.heap.size → At w' g T zero → ∀ w'', Only (fun j => j = g) w' w'' → R ρ w'') : CallG k m T zero F tup cs R W (updB dn k) (updN us k (.tuple (tup ρ).toArray)) w' := by
  refine ⟨h.only.trans (below_only hb), fun e => (by rw [updB_ne (by omega)] at e ⊢; exact h.st e), fun j hj e => ?_, fun _ => ⟨ρ, updN_eq, hr, fun e g hg => ?_⟩, fun e => ?_, fun j hj e => ?_, fun e => ?_, fun j h1 hj e => ?_⟩
  · rw [updB_ne (by omega)] at e; rw [updN_ne (by omega)]; exact h.pre j hj e
  · rw [updB_ne (by omega)] at e
    rw [updN_ne (by omega)] at hg
    obtain ⟨g', b1, b2, b3, b4, b5⟩ := h.box e
    rw [b1] at hg
    injection hg with hg
    injection hg with hg
    injection hg with hg
    subst hg
    refine hoff _ b2 b3 ((b4 ?_).below' hb)
    cases q : dn (k + m + 3) with
    | false => rfl
    | true => have := (b5 q).1; rw [hk] at this; cases this
  · rw [updB_ne (by omega)] at e
    have := (h.mv e).1
    rw [hk] at this; cases this
  · rw [updB_ne (by omega)] at e
    have := (h.ext j hj e).1
    rw [hk] at this; cases this
  · rw [updB_ne (by omega)] at e ⊢
    rw [updN_ne (by omega), updB_eq]
    obtain ⟨g', b1, b2, b3, b4, b5⟩ := h.box e
    refine ⟨g', b1, b2, Nat.lt_of_lt_of_le b3 hb.size, fun q => (b4 q).below' hb, fun q => ?_⟩
    have := (b5 q).1
    rw [hk] at this; cases this
  · rw [updB_ne (by omega)] at e
    have := (h.asg j h1 hj e).1
    rw [hk] at this; cases this
theorem CallG.moved (h : CallG k m T zero F tup cs R W dn us w) (hk : dn k = true) : CallG k m T zero F tup cs R W (updB dn (k + 1)) (updN us (k + 1) (us k)) w := by
  refine ⟨h.only, fun e => (by rw [updB_ne (by omega)] at e ⊢; exact h.st e), fun j hj e => ?_, fun e => ?_, fun e => ?_, fun j hj e => ?_, fun e => ?_, fun j h1 hj e => ?_⟩
  · rw [updB_ne (by omega)] at e; rw [updN_ne (by omega)]; exact h.pre j hj e
  · rw [updB_ne (by omega)] at e ⊢; rw [updN_ne (by omega), updN_ne (by omega)]; exact h.call e
  · rw [updB_ne (by omega), updN_eq, updN_ne (by omega)]; exact ⟨hk, rfl⟩
  · rw [updB_ne (by omega)] at e ⊢; rw [updN_ne (by omega), updN_ne (by omega)]; exact h.ext j hj e
  · rw [updB_ne (by omega)] at e ⊢; rw [updB_ne (by omega), updN_ne (by omega), updN_ne (by omega)]; exact h.box e
  · rw [updB_ne (by omega)] at e ⊢; rw [updN_ne (by omega), updN_ne (by omega)]; exact h.asg j h1 hj e
theorem CallG.took (h : CallG k m T zero F tup cs R W dn us w) {i : Nat} (hi : i < m) (hk : dn k = true) {v : Value} (hv : ∀ ρ, us k = .tuple (tup ρ).toArray → some v = (tup ρ)[i]?) : CallG k m T zero F tup cs R W (updB dn (k + 2 + i)) (updN us (k + 2 + i) v) w := by
  refine ⟨h.only, fun e => (by rw [updB_ne (by omega)] at e ⊢; exact h.st e), fun j hj e => ?_, fun e => ?_, fun e => ?_, fun j hj e => ?_, fun e => ?_, fun j h1 hj e => ?_⟩
  · rw [updB_ne (by omega)] at e; rw [updN_ne (by omega)]; exact h.pre j hj e
  · rw [updB_ne (by omega)] at e ⊢; rw [updN_ne (by omega), updN_ne (by omega)]; exact h.call e
  · rw [updB_ne (by omega)] at e ⊢; rw [updN_ne (by omega), updN_ne (by omega)]; exact h.mv e
  · rw [updB_ne (j := k) (by omega), updN_ne (j := k) (by omega)]
    by_cases q : j = i
    · subst q; rw [updN_eq]; exact ⟨hk, hv⟩
    · rw [updB_ne (by omega)] at e; rw [updN_ne (by omega)]; exact h.ext j hj e
  · rw [updB_ne (by omega)] at e ⊢; rw [updB_ne (by omega), updN_ne (by omega), updN_ne (by omega)]; exact h.box e
  · rw [updB_ne (by omega)] at e ⊢; rw [updN_ne (by omega), updN_ne (by omega)]; exact h.asg j h1 hj e
theorem CallG.said (h : CallG k m T zero F tup cs R W dn us w) {i : Nat} (hi1 : 1 ≤ i) (hi : i < m) (hk : dn k = true) {v : Value} (hv : ∀ ρ, us k = .tuple (tup ρ).toArray → some v = (tup ρ)[i]?) : CallG k m T zero F tup cs R W (updB dn (k + m + 3 + i)) (updN us (k + m + 3 + i) v) w := by
  refine ⟨h.only, fun e => (by rw [updB_ne (by omega)] at e ⊢; exact h.st e), fun j hj e => ?_, fun e => ?_, fun e => ?_, fun j hj e => ?_, fun e => ?_, fun j h1 hj e => ?_⟩
  · rw [updB_ne (by omega)] at e; rw [updN_ne (by omega)]; exact h.pre j hj e
  · rw [updB_ne (by omega)] at e ⊢; rw [updN_ne (by omega), updN_ne (by omega)]; exact h.call e
  · rw [updB_ne (by omega)] at e ⊢; rw [updN_ne (by omega), updN_ne (by omega)]; exact h.mv e
  · rw [updB_ne (by omega)] at e ⊢; rw [updN_ne (by omega), updN_ne (by omega)]; exact h.ext j hj e
  · rw [updB_ne (by omega)] at e ⊢; rw [updB_ne (by omega), updN_ne (by omega), updN_ne (by omega)]; exact h.box e
  · rw [updB_ne (j := k) (by omega), updN_ne (j := k) (by omega)]
    by_cases q : j = i
    · subst q; rw [updN_eq]; exact ⟨hk, hv⟩
    · rw [updB_ne (by omega)] at e; rw [updN_ne (by omega)]; exact h.asg j h1 hj e
/-- The memory is made. -/
theorem CallG.boxed (h : CallG k m T zero F tup cs R W dn us w) (hd : dn (k + m + 2) = false) (hR : ∀ ρ, R ρ w → R ρ (w.alloc (.cells zero T)) ∧ ∀ w', Only (fun j => j = w.heap.size) (w.alloc (.cells zero T)) w' → R ρ w') : CallG k m T zero F tup cs R W (updB dn (k + m + 2)) (updN us (k + m + 2) (.pointer (some ⟨w.heap.size, 0, none⟩))) (w.alloc (.cells zero T)) := by
  have hs : dn (k + m + 3) = false := by
    cases q : dn (k + m + 3) with
    | false => rfl
    | true => have := h.st q; rw [hd] at this; cases this
  refine ⟨h.only.alloc _, fun _ => updB_eq, fun j hj e => ?_, fun e => ?_, fun e => ?_, fun j hj e => ?_, fun e => ?_, fun j h1 hj e => ?_⟩
  · rw [updB_ne (by omega)] at e; rw [updN_ne (by omega)]; exact h.pre j hj e
  · rw [updB_ne (by omega)] at e
    rw [updN_ne (by omega), updN_eq]
    obtain ⟨ρ, a, b, _⟩ := h.call e
    refine ⟨ρ, a, (hR ρ b).1, fun _ g hg => ?_⟩
    injection hg with hg
    injection hg with hg
    injection hg with hg
    subst hg
    exact (hR ρ b).2
  · rw [updB_ne (by omega)] at e ⊢; rw [updN_ne (by omega), updN_ne (by omega)]; exact h.mv e
  · rw [updB_ne (by omega)] at e ⊢; rw [updN_ne (by omega), updN_ne (by omega)]; exact h.ext j hj e
  · rw [updN_eq, updB_ne (by omega)]
    exact ⟨_, rfl, h.only.size, by rw [World.size_alloc]; omega, fun _ => At.new w T zero, fun q => by rw [hs] at q; cases q⟩
  · rw [updB_ne (by omega)] at e ⊢; rw [updN_ne (by omega), updN_ne (by omega)]; exact h.asg j h1 hj e
/-- What was handed back is laid into it. -/
theorem CallG.laid (h : CallG k m T zero F tup cs R W dn us w) (hk : dn k = true) (hb : dn (k + m + 2) = true) {g : Nat} (hg : us (k + m + 2) = .pointer (some ⟨g, 0, none⟩)) {w' : World} (hO : Only (fun j => j = g) w w') (hA : ∀ ρ, us k = .tuple (tup ρ).toArray → At w' g T (cs ρ)) (v : Value) : CallG k m T zero F tup cs R W (updB dn (k + m + 3)) (updN us (k + m + 3) v) w' := by
  obtain ⟨g', b1, b2, b3, _⟩ := h.box hb
  have e1 : g' = g := by
    rw [b1] at hg
    injection hg with hg
    injection hg with hg
    injection hg with hg
  subst e1
  refine ⟨⟨hO.os.trans h.only.os, hO.tape.trans h.only.tape, hO.output.trans h.only.output, Nat.le_trans h.only.size hO.size, fun i hi _ => (hO.block i (Nat.lt_of_lt_of_le hi h.only.size) (by show ¬ i = g'; omega)).trans (h.only.block i hi id)⟩, fun _ => (by rw [updB_ne (by omega)]; exact hb), fun j hj e => ?_, fun e => ?_, fun e => ?_, fun j hj e => ?_, fun e => ?_, fun j h1 hj e => ?_⟩
  · rw [updB_ne (by omega)] at e; rw [updN_ne (by omega)]; exact h.pre j hj e
  · rw [updB_ne (by omega)] at e
    rw [updN_ne (by omega), updN_ne (by omega), updB_ne (by omega)]
    obtain ⟨ρ, a, b, c⟩ := h.call e
    refine ⟨ρ, a, c hb g' b1 w' hO, fun _ g hg w'' hO' => c hb g' b1 w'' ?_⟩
    rw [b1] at hg
    injection hg with hg
    injection hg with hg
    injection hg with hg
    subst hg
    exact hO.trans hO'
  · rw [updB_ne (by omega)] at e ⊢; rw [updN_ne (by omega), updN_ne (by omega)]; exact h.mv e
  · rw [updB_ne (by omega)] at e ⊢; rw [updN_ne (by omega), updN_ne (by omega)]; exact h.ext j hj e
  · rw [updB_eq, updN_ne (by omega), updN_ne (by omega), updB_ne (by omega)]
    exact ⟨g', b1, b2, Nat.lt_of_lt_of_le b3 hO.size, fun q => (by cases q), fun _ => ⟨hk, hA⟩⟩
  · rw [updB_ne (by omega)] at e ⊢; rw [updN_ne (by omega), updN_ne (by omega)]; exact h.asg j h1 hj e
end
end Go.Proofs.YtccmjljlfgbicaaGreat

/- The document's world while a scene is laid: where it lies, and what its changes leave of it. -/
namespace Go.Proofs.YtccmjljlfgbicaaGreat
open Go.ChangeShapes Go.WideShapes Go.ChangeAt Go.RowKit

theorem rv_no (r : RV) (s : St) : ∀ x, Value.int .u64 x ∉ (r.cells s).toList := by
  intro x h
  simp at h
/-- A book's rows lie elsewhere. -/
structure RowsOff (r : RV) (N : Nat → Prop) : Prop where
  cs : ∀ b o, r.cs.1 = some ⟨b, o, none⟩ → ¬ N b
  is : ∀ b o, r.is.1 = some ⟨b, o, none⟩ → ¬ N b
  ms : ∀ b o, r.ms.1 = some ⟨b, o, none⟩ → ¬ N b
  os : ∀ b o, r.os.1 = some ⟨b, o, none⟩ → ¬ N b
  ns : ∀ b o, r.ns.1 = some ⟨b, o, none⟩ → ¬ N b
theorem BookIn.only {w w' : World} {r : RV} {s : St} {S : Nat → Prop} (h : BookIn w r s) (ho : Only S w w') (hr : RowsOff r S) : BookIn w' r s :=
  ⟨h.cs.only ho fun b o e _ => hr.cs b o e, h.is.only ho fun b o e _ => hr.is b o e, h.ms.only ho fun b o e _ => hr.ms b o e, h.os.only ho fun b o e _ => hr.os b o e, h.ns.only ho fun b o e _ => hr.ns b o e, h.os0, h.ns0⟩
theorem read_lt {w : World} {ao : Option Addr} {cs : List Value} (h : ReadAt w ao cs) (hc : 0 < cs.length) {b o : Nat} (e : ao = some ⟨b, o, none⟩) : b < w.heap.size := by
  obtain ⟨b', o', h1, h2⟩ := h 0 _ (List.getElem?_eq_getElem hc)
  rw [e] at h1
  injection h1 with h1
  injection h1 with e1 e2
  subst e1
  exact World.block_lt_of_cell? w _ h2
/-- A book's rows lie in memory that there is. -/
theorem rows_lt {w : World} {r : RV} {s : St} (h : BookIn w r s) (ht : 0 < s.thr.length) : RowsOff r (fun b => ¬ b < w.heap.size) := by
  refine ⟨fun b o e k => k (read_lt h.cs (by simpa [intsV] using ht) e), fun b o e k => k (read_lt h.is (by simpa [intsV] using ht) e), fun b o e k => k (read_lt h.ms (by simpa [intsV] using ht) e), fun b o e k => ?_, fun b o e k => ?_⟩
  · cases hs : s.ops with
    | nil => rw [h.os0 hs] at e; cases e
    | cons a l => exact k (read_lt h.os (by rw [hs, opRows_len]; simp) e)
  · cases hs : s.nodes with
    | nil => rw [h.ns0 hs] at e; cases e
    | cons a l => exact k (read_lt h.ns (by rw [hs, nodeRows_len]; simp) e)
theorem RowsOff.imp {r : RV} {N N' : Nat → Prop} (h : RowsOff r N) (hi : ∀ b, N' b → N b) : RowsOff r N' :=
  ⟨fun b o e k => h.cs b o e (hi b k), fun b o e k => h.is b o e (hi b k), fun b o e k => h.ms b o e (hi b k), fun b o e k => h.os b o e (hi b k), fun b o e k => h.ns b o e (hi b k)⟩
/-- What is new lies elsewhere than in what was. -/
theorem RowsOff.fresh {r ρ : RV} {n : Nat} {N : Nat → Prop} (h : RowsOff r N) (hf : BookFr n r ρ) (hn : ∀ b, N b → b < n) : RowsOff ρ N := by
  have go : ∀ {a a' : Option Addr}, Fr n a a' → (∀ b o, a = some ⟨b, o, none⟩ → ¬ N b) → ∀ b o, a' = some ⟨b, o, none⟩ → ¬ N b := by
    rintro a a' (rfl | ⟨g, rfl, hg⟩) h b o e k
    · exact h b o e k
    · injection e with e
      injection e with e1 e2
      have := hn b k
      omega
  exact ⟨go hf.cs h.cs, go hf.is h.is, go hf.ms h.ms, go hf.os h.os, go hf.ns h.ns⟩

theorem RowsOff.nones (N : Nat → Prop) : RowsOff ⟨(none, 0), (none, 0), (none, 0), (none, 0), (none, 0), (none, 0)⟩ N :=
  ⟨fun _ _ e => (by cases e), fun _ _ e => (by cases e), fun _ _ e => (by cases e), fun _ _ e => (by cases e), fun _ _ e => (by cases e)⟩
structure LayAt (T L : Nat) (W5 : World) (r : RV) (s : St) (w : World) : Prop where
  at_ : At w T 45 (r.cells s)
  ref : RefIn w r s
  only : Only (fun j => j = T) W5 w
  off : RowsOff r (fun j => j = T)
  off2 : RowsOff r (fun j => j < L)
  offw : ∀ b o, r.w.1 = some ⟨b, o, none⟩ → ¬ b < L
  le : L ≤ T

section
variable {T L : Nat} {W5 wr w1 w2 : World} {r ρ : RV} {s s1 : St}
theorem words_off {w : World} {p : Sl} {l : List Int} (hl : 0 < l.length) (h : ReadAt w p.1 (wordsV l)) {cs : Array Value} {t : TypeId} (hA : At w T t cs) (hc : ∀ x, Value.int .u64 x ∉ cs.toList) : ∀ b o, p.1 = some ⟨b, o, none⟩ → ¬ b = T := words_apart h hA hc hl
/-- Another book is laid into it. -/
theorem LayAt.book (h : LayAt T L W5 r s wr) (hl : 0 < s.words.length) (hO1 : Only (fun _ => False) wr w1) (hB : BookIn w1 ρ s1) (hf : BookFr wr.heap.size r ρ) (hw : s1.words = s.words) (hA : At w2 T 45 (RV.cells { ρ with w := r.w } s1)) (hO2 : Only (fun j => j = T) w1 w2) : LayAt T L W5 { ρ with w := r.w } s1 w2 := by
  have hlt := h.at_.lt
  have off1 : RowsOff ρ (fun j => j = T) := h.off.fresh hf fun b e => by subst e; exact hlt
  have off2 : RowsOff ρ (fun j => j < L) := h.off2.fresh hf fun b e => by have := h.le; omega
  have wo := words_off hl h.ref.words h.at_ (rv_no r s)
  have hb := hB.only hO2 off1
  refine ⟨hA, ⟨?_, ⟨hb.cs, hb.is, hb.ms, hb.os, hb.ns, hb.os0, hb.ns0⟩⟩, ?_, ⟨off1.cs, off1.is, off1.ms, off1.os, off1.ns⟩, ⟨off2.cs, off2.is, off2.ms, off2.os, off2.ns⟩, h.offw, h.le⟩
  · rw [hw]
    exact (h.ref.words.only hO1 fun _ _ _ _ => id).only hO2 fun b o e _ => wo b o e
  · exact h.only.trans ((hO1.mono fun _ _ k => k.elim).trans hO2)
/-- Other words are. -/
theorem LayAt.words {p : Sl} (h : LayAt T L W5 r s wr) (hl : 0 < s1.words.length) (hO1 : Only (fun _ => False) wr w1) (hp : ReadAt w1 p.1 (wordsV s1.words)) (hf : Fr wr.heap.size r.w.1 p.1) (h1 : s1.thr = s.thr) (h2 : s1.ops = s.ops) (h3 : s1.nodes = s.nodes) (hA : At w2 T 45 (RV.cells { r with w := p } s1)) (hO2 : Only (fun j => j = T) w1 w2) : LayAt T L W5 { r with w := p } s1 w2 := by
  have hA1 : At w1 T 45 (r.cells s) := h.at_.only hO1 id
  have wo := words_off hl hp hA1 (rv_no r s)
  have hb := ((h.ref.book.only hO1 ⟨fun _ _ _ => id, fun _ _ _ => id, fun _ _ _ => id, fun _ _ _ => id, fun _ _ _ => id⟩).only hO2 h.off).other h1 h2 h3 p
  exact ⟨hA, ⟨hp.only hO2 fun b o e _ => wo b o e, hb⟩, h.only.trans ((hO1.mono fun _ _ k => k.elim).trans hO2), ⟨h.off.cs, h.off.is, h.off.ms, h.off.os, h.off.ns⟩, ⟨h.off2.cs, h.off2.is, h.off2.ms, h.off2.os, h.off2.ns⟩, hf.off (N := fun b => b < L) h.offw (fun b e => by have e' : b < L := e; have := h.le; have := h.at_.lt; omega), h.le⟩
end

theorem LayAt.below {T L : Nat} {W5 w w' : World} {r : RV} {s : St} (h : LayAt T L W5 r s w) (hb : Below w.heap.size w w') : LayAt T L W5 r s w' :=
  ⟨h.at_.below' hb, h.ref.below hb, h.only.trans (below_only hb), h.off, h.off2, h.offw, h.le⟩

/-- What is kept in a region that sets a reference: pure operations, the call, the store. -/
structure SetG (k : Nat) (T : Nat) (F : Nat → Value → Prop) (r : RV) (s s1 : St) (W : World) (dn : Nat → Bool) (us : Nat → Value) (w : World) : Prop where
  only : Only (fun j => j = T) W w
  same : dn k = false → w = W
  dk1 : dn (k + 1) = true → dn k = true
  dk0 : dn k = true → dn 0 = true
  pre : ∀ j, j < k → dn j = true → F j (us j)
  call : dn k = true → dn (k + 1) = false → ∃ p : Sl, us k = RV.val { r with w := p } s1 ∧ ReadAt w p.1 (wordsV s1.words) ∧ Fr W.heap.size r.w.1 p.1 ∧ Only (fun _ => False) W w
  st : dn (k + 1) = true → ∃ (p : Sl) (w1 : World), ReadAt w1 p.1 (wordsV s1.words) ∧ Fr W.heap.size r.w.1 p.1 ∧ Only (fun _ => False) W w1 ∧ Only (fun j => j = T) w1 w ∧ At w T 45 (RV.cells { r with w := p } s1)
section
variable {k T : Nat} {F : Nat → Value → Prop} {r : RV} {s s1 : St} {W w : World} {dn : Nat → Bool} {us : Nat → Value}
theorem SetG.start (us : Nat → Value) : SetG k T F r s s1 W (fun _ => false) us W :=
  ⟨Only.refl _ _, fun _ => rfl, fun e => (by cases e), fun e => (by cases e), fun _ _ e => (by cases e), fun e => (by cases e), fun e => (by cases e)⟩
theorem SetG.first (h : SetG k T F r s s1 W dn us w) {i : Nat} {v : Value} (hi : i < k) (hv : F i v) : SetG k T F r s s1 W (updB dn i) (updN us i v) w := by
  refine ⟨h.only, fun e => ?_, fun e => ?_, fun e => ?_, fun j hj e => ?_, fun e1 e2 => ?_, fun e => ?_⟩
  · rw [updB_ne (by omega)] at e; exact h.same e
  · rw [updB_ne (by omega)] at e ⊢; exact h.dk1 e
  · rw [updB_ne (by omega)] at e
    by_cases q : 0 = i
    · subst q; exact updB_eq
    · rw [updB_ne q]; exact h.dk0 e
  · by_cases q : j = i
    · subst q; rw [updN_eq]; exact hv
    · rw [updB_ne q] at e; rw [updN_ne q]; exact h.pre j hj e
  · rw [updB_ne (by omega)] at e1 e2; rw [updN_ne (by omega)]; exact h.call e1 e2
  · rw [updB_ne (by omega)] at e; exact h.st e
theorem SetG.called (h : SetG k T F r s s1 W dn us w) (hk : dn k = false) (h0 : dn 0 = true) (hk0 : k ≠ 0) {p : Sl} {w' : World} (hb : Below w.heap.size w w') (hr : ReadAt w' p.1 (wordsV s1.words)) (hf : Fr w.heap.size r.w.1 p.1) : SetG k T F r s s1 W (updB dn k) (updN us k (RV.val { r with w := p } s1)) w' := by
  have hw := h.same hk
  subst hw
  refine ⟨below_only hb, fun e => (by rw [updB_eq] at e; cases e), fun e => updB_eq, fun _ => by rw [updB_ne (by omega)]; exact h0, fun j hj e => ?_, fun _ _ => ⟨p, updN_eq, hr, hf, below_only hb⟩, fun e => ?_⟩
  · rw [updB_ne (by omega)] at e; rw [updN_ne (by omega)]; exact h.pre j hj e
  · rw [updB_ne (by omega)] at e
    have := h.dk1 e
    rw [hk] at this; cases this
theorem SetG.laid (h : SetG k T F r s s1 W dn us w) (hk : dn k = true) (hs : dn (k + 1) = false) {p : Sl} (hr : ReadAt w p.1 (wordsV s1.words)) (hf : Fr W.heap.size r.w.1 p.1) {w' : World} (hO : Only (fun j => j = T) w w') (hA : At w' T 45 (RV.cells { r with w := p } s1)) (v : Value) : SetG k T F r s s1 W (updB dn (k + 1)) (updN us (k + 1) v) w' := by
  obtain ⟨_, _, _, _, hO1⟩ := h.call hk hs
  refine ⟨(hO1.mono fun _ _ k => k.elim).trans hO, fun e => ?_, fun _ => by rw [updB_ne (by omega)]; exact hk, fun e => ?_, fun j hj e => ?_, fun _ e => ?_, fun _ => ⟨p, w, hr, hf, hO1, hO, hA⟩⟩
  · rw [updB_ne (by omega), hk] at e; cases e
  · rw [updB_ne (by omega)]; exact h.dk0 hk
  · rw [updB_ne (by omega)] at e; rw [updN_ne (by omega)]; exact h.pre j hj e
  · rw [updB_eq] at e; cases e
end
end Go.Proofs.YtccmjljlfgbicaaGreat

