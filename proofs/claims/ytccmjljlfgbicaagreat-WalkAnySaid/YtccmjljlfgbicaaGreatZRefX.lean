/- Contract of corrieref07.Begin: an operation is written down in the document's book. Printed by begingen.py. -/
import Derived.Test.YtccmjljlfgbicaaGreatZRefW
import Derived.Deep.RegionHeld3
namespace Go.Proofs.YtccmjljlfgbicaaGreat
open Go.ChangeShapes Go.WideShapes Go.ChangeAt Go.RowKit

abbrev GCall.arr (c : GCall) : Array Value := #[.int .i64 c.kind, .int .u64 c.key, .int .u64 c.val, .int .i64 c.limit]
theorem opinfo : (Tryz.prog.info? 93).map (fun i => (i.zero, i.size, i.bytes)) = some (some (.agg #[.int .i64 0, .int .i64 0, .int .u64 0, .int .u64 0, .int .i64 0]), 5, 40) := by kernel_rfl
theorem opRow_one (p : Int × GCall) : ∀ u ∈ opRow p, u.oneCell' = true := by
  intro u hu
  simp [opRow] at hu
  rcases hu with rfl | rfl | rfl | rfl | rfl <;> rfl
theorem opRows_len (l : List (Int × GCall)) : (opRows l).length = l.length * 5 := by
  unfold opRows
  induction l with
  | nil => rfl
  | cons a l ih => rw [List.flatMap_cons, List.length_append, ih, List.length_cons, Nat.add_mul]; show 5 + _ = _; omega
theorem opRows_one (l : List (Int × GCall)) : ∀ u ∈ opRows l, u.oneCell' = true := by
  intro u hu
  obtain ⟨p, _, hp⟩ := List.mem_flatMap.1 hu
  exact opRow_one p u hp
theorem At.grown {w w' : World} {g g' : Nat} {t : TypeId} {cs : Array Value} (h : At w g t cs) (hg : w.grownBy w' (some g')) (hne : g ≠ g') : At w' g t cs :=
  (hg.block g h.lt (by intro e; injection e with e; exact hne e)).trans h
theorem three_at (w : World) (o1 o2 o3 : Obj) {t1 t2 t3 : TypeId} {c1 c2 c3 : Array Value} (e1 : o1 = .cells c1 t1) (e2 : o2 = .cells c2 t2) (e3 : o3 = .cells c3 t3) :
    At (((w.alloc o1).alloc o2).alloc o3) w.heap.size t1 c1 ∧ At (((w.alloc o1).alloc o2).alloc o3) (w.heap.size + 1) t2 c2 ∧ At (((w.alloc o1).alloc o2).alloc o3) (w.heap.size + 1 + 1) t3 c3 ∧ Below w.heap.size w (((w.alloc o1).alloc o2).alloc o3) := by
  subst e1; subst e2; subst e3
  refine ⟨((At.new w _ _).alloc _).alloc _, (At.new1 w _ _ _).alloc _, ?_, (((Below.refl _ w).alloc (Nat.le_refl _) _).alloc (by simp) _).alloc (by simp; omega) _⟩
  have h := At.new ((w.alloc (.cells c1 t1)).alloc (.cells c2 t2)) t3 c3
  rw [World.size_alloc, World.size_alloc] at h
  exact h

set_option maxRecDepth 100000 in
set_option maxHeartbeats 1000000 in
theorem rbegin_thread {r : RV} {s : St} (n : Int) (c : GCall) (w : World) (hta : inTop n s.thr.length = false) :
    Calls Tryz.prog 63 #[r.book s, .int .i64 n, c.v] w fun e w' => e = .returned (.tuple #[.agg (r.bcells s), .int .i64 0, .int .i64 1]) ∧ Below w.heap.size w w' := by
  obtain ⟨A3, A5, A6, AB⟩ := three_at w (.cells (r.bcells s) 43) (.cells c.arr 28) (.cells zero10 43) rfl rfl rfl
  have hc := fun W => ris_any (r := r) (s := s) n W
  rw [hta] at hc
  go_enter Tryz.func63, Tryz.ntmps63
  go_wp2_with (first
    | (refine wpl_st rfl 43 _ _ rfl (r.bcells s) rfl _ rfl B6 (by kernel_rfl) rfl rfl rfl ?_; intro w2 A2 O2)
    | (refine wpl_ld rfl 43 _ rfl (r.bcells s) rfl _ B3 Tryz.underlying43 rfl (by kernel_rfl) rfl ?_)
    | (go_at_call 133; refine (hc _).mono ?_; rintro e w1 ⟨rfl, hb1⟩; have B3 := A3.below' hb1; have B5 := A5.below' hb1; have B6 := A6.below' hb1; have D1 := AB.trans (hb1.mono AB.size)
       have k0 : w1.cell? ⟨w.heap.size + 1, 0, none⟩ = some (.int .i64 c.kind) := B5.cell 0)
    | (refine wpl_ld rfl 43 _ rfl (r.bcells s) rfl _ A3 Tryz.underlying43 rfl (by kernel_rfl) rfl ?_))
  have D2 := D1.trans (O2.below D1.size fun j hj e => by have e' : j = w.heap.size + 1 + 1 := e; omega)
  exact bodyPost_ret (v := .tuple #[.agg (r.bcells s), .int .i64 0, .int .i64 1]) (res_cell_tmp2 (fn := Tryz.f63) Tryz.results63 _ _ (w.heap.size + 1 + 1) _ _ rfl A2 Tryz.underlying43 rfl (by kernel_rfl)) rfl ⟨rfl, D2⟩

set_option maxRecDepth 100000 in
set_option maxHeartbeats 1000000 in
theorem rbegin_kind {r : RV} {s : St} (n : Int) (c : GCall) (w : World) (hta : inTop n s.thr.length = true) (hk : c.kind < 1 ∨ 4 < c.kind) :
    Calls Tryz.prog 63 #[r.book s, .int .i64 n, c.v] w fun e w' => e = .returned (.tuple #[.agg (r.bcells s), .int .i64 0, .int .i64 1]) ∧ Below w.heap.size w w' := by
  obtain ⟨A3, A5, A6, AB⟩ := three_at w (.cells (r.bcells s) 43) (.cells c.arr 28) (.cells zero10 43) rfl rfl rfl
  have hc := fun W => ris_any (r := r) (s := s) n W
  rw [hta] at hc
  by_cases hk1 : c.kind < 1
  · clear hk
    go_enter Tryz.func63, Tryz.ntmps63
    go_wp2_with (first
      | (refine wpl_st rfl 43 _ _ rfl (r.bcells s) rfl _ rfl B6 (by kernel_rfl) rfl rfl rfl ?_; intro w2 A2 O2)
      | (refine wpl_ld rfl 43 _ rfl (r.bcells s) rfl _ B3 Tryz.underlying43 rfl (by kernel_rfl) rfl ?_)
      | (go_at_call 133; refine (hc _).mono ?_; rintro e w1 ⟨rfl, hb1⟩; have B3 := A3.below' hb1; have B5 := A5.below' hb1; have B6 := A6.below' hb1; have D1 := AB.trans (hb1.mono AB.size)
         have k0 : w1.cell? ⟨w.heap.size + 1, 0, none⟩ = some (.int .i64 c.kind) := B5.cell 0)
      | (refine wpl_ld rfl 43 _ rfl (r.bcells s) rfl _ A3 Tryz.underlying43 rfl (by kernel_rfl) rfl ?_))
    have D2 := D1.trans (O2.below D1.size fun j hj e => by have e' : j = w.heap.size + 1 + 1 := e; omega)
    exact bodyPost_ret (v := .tuple #[.agg (r.bcells s), .int .i64 0, .int .i64 1]) (res_cell_tmp2 (fn := Tryz.f63) Tryz.results63 _ _ (w.heap.size + 1 + 1) _ _ rfl A2 Tryz.underlying43 rfl (by kernel_rfl)) rfl ⟨rfl, D2⟩
  · have hk2 : 4 < c.kind := by omega
    clear hk
    go_enter Tryz.func63, Tryz.ntmps63
    go_wp2_with (first
      | (refine wpl_st rfl 43 _ _ rfl (r.bcells s) rfl _ rfl B6 (by kernel_rfl) rfl rfl rfl ?_; intro w2 A2 O2)
      | (refine wpl_ld rfl 43 _ rfl (r.bcells s) rfl _ B3 Tryz.underlying43 rfl (by kernel_rfl) rfl ?_)
      | (go_at_call 133; refine (hc _).mono ?_; rintro e w1 ⟨rfl, hb1⟩; have B3 := A3.below' hb1; have B5 := A5.below' hb1; have B6 := A6.below' hb1; have D1 := AB.trans (hb1.mono AB.size)
         have k0 : w1.cell? ⟨w.heap.size + 1, 0, none⟩ = some (.int .i64 c.kind) := B5.cell 0)
      | (refine wpl_ld rfl 43 _ rfl (r.bcells s) rfl _ A3 Tryz.underlying43 rfl (by kernel_rfl) rfl ?_))
    have D2 := D1.trans (O2.below D1.size fun j hj e => by have e' : j = w.heap.size + 1 + 1 := e; omega)
    exact bodyPost_ret (v := .tuple #[.agg (r.bcells s), .int .i64 0, .int .i64 1]) (res_cell_tmp2 (fn := Tryz.f63) Tryz.results63 _ _ (w.heap.size + 1 + 1) _ _ rfl A2 Tryz.underlying43 rfl (by kernel_rfl)) rfl ⟨rfl, D2⟩

set_option maxRecDepth 100000 in
set_option maxHeartbeats 1000000 in
theorem rbegin_retired {r : RV} {s : St} (i : Nat) (t : Thr) (c : GCall) (w : World) (h : BookIn w r s) (hok : s.ok) (ht : s.thr[i]? = some t) (hk : 1 ≤ c.kind ∧ c.kind ≤ 4) (hfl : t.calls = s.c.calls) :
    Calls Tryz.prog 63 #[r.book s, .int .i64 i, c.v] w fun e w' => e = .returned (.tuple #[.agg (r.bcells s), .int .i64 0, .int .i64 2]) ∧ Below w.heap.size w w' := by
  obtain ⟨A3, A5, A6, AB⟩ := three_at w (.cells (r.bcells s) 43) (.cells c.arr 28) (.cells zero10 43) rfl rfl rfl
  have hmb := may_bounds hok.may
  have hct := hok.counts t (List.mem_of_getElem? ht)
  have hil : i < s.thr.length := (List.getElem?_eq_some_iff.1 ht).1
  have hta : inTop (i : Int) s.thr.length = true := by unfold inTop; simp; omega
  have hc := fun W => ris_any (r := r) (s := s) (i : Int) W
  rw [hta] at hc
  obtain ⟨mb, mo, hmeq, mlt, hm0⟩ := ints_read h.cs (k := i) (x := t.calls) (by simp [ht])
  obtain ⟨nb, no, hneq, nlt, hn0⟩ := ints_read h.is (k := i) (x := t.inserts) (by simp [ht])
  have HM := Lib.hid (And.intro hmeq hm0)
  have HN := Lib.hid (And.intro hneq hn0)
  have hmore : ∀ W, Below w.heap.size w W → _ := fun W (hb : Below w.heap.size w W) => rmore_any (l := s.thr.map Thr.calls) (ao := r.cs.1) (cap := r.cs.2) i W (h.cs.below hb) (by simpa using hil) (by rw [List.length_map]; have := hok.thr; omega) (fun x hx => by
    obtain ⟨u, hu, rfl⟩ := List.mem_map.1 hx
    have := hok.counts u hu
    omega)
  have hmore2 : ∀ W, Below w.heap.size w W → _ := fun W (hb : Below w.heap.size w W) => rmore_any (l := s.thr.map Thr.inserts) (ao := r.is.1) (cap := r.is.2) i W (h.is.below hb) (by simpa using hil) (by rw [List.length_map]; have := hok.thr; omega) (fun x hx => by
    obtain ⟨u, hu, rfl⟩ := List.mem_map.1 hx
    have := hok.counts u hu
    omega)
  simp only [List.length_map] at hmore hmore2
  have hg1 : (s.thr.map Thr.calls).getD i 0 = t.calls := by rw [List.getD_eq_getElem?_getD]; simp [ht]
  have hg2 : (s.thr.map Thr.inserts).getD i 0 = t.inserts := by rw [List.getD_eq_getElem?_getD]; simp [ht]
  rw [hg1, hmeq] at hmore
  rw [hg2, hneq] at hmore2
  have hop := fun W (hcl : t.calls < s.c.calls) => rop_any s.c (i : Int) t.calls W hok.may (by rw [← hok.thr]; omega) (by omega)
  have HO := Lib.hid hmore
  have HO2 := Lib.hid hmore2
  have HOp := Lib.hid hop
  have HOs := Lib.hid (And.intro h.os h.os0)
  obtain ⟨i0, hi0, hz0, hz1, hz2⟩ := info_parts opinfo
  have hk1 : ¬ c.kind < 1 := by omega
  have hk2 : ¬ 4 < c.kind := by omega
  have HK := Lib.hid (And.intro hmb hct)
  clear hmeq hm0 hneq hn0 h hmb hct hmore hmore2 hop hg1 hg2 hk
  have hfl' : (t.calls == s.c.calls) = true := by simpa using hfl
  go_enter Tryz.func63, Tryz.ntmps63
  go_wp2_with (first
    | (refine wpl_st rfl 43 _ _ rfl (r.bcells s) rfl _ rfl B6 (by kernel_rfl) rfl rfl rfl ?_; intro w2 A2 O2)
    | (refine wpl_ld rfl 43 _ rfl (r.bcells s) rfl _ B3 Tryz.underlying43 rfl (by kernel_rfl) rfl ?_)
    | (go_at_call 133; refine (hc _).mono ?_; rintro e w1 ⟨rfl, hb1⟩; have B3 := A3.below' hb1; have B5 := A5.below' hb1; have B6 := A6.below' hb1; have D1 := AB.trans (hb1.mono AB.size)
       have k0 : w1.cell? ⟨w.heap.size + 1, 0, none⟩ = some (.int .i64 c.kind) := B5.cell 0
       obtain ⟨⟨z0, z1, z2, z3, z4, z5, z6, z7, z8, z9⟩, zf, zl⟩ := at10 B3
       rw [HM.out.1] at z5
       have hm2 : w1.cell? ⟨mb, mo + i, none⟩ = some (.int .i64 t.calls) := by
         have := (D1.cell (p := ⟨mb, mo + i, none⟩) mlt)
         rw [this]; exact HM.out.2)
    | (refine wpl_ld rfl 43 _ rfl (r.bcells s) rfl _ A3 Tryz.underlying43 rfl (by kernel_rfl) rfl ?_))
  have D2 := D1.trans (O2.below D1.size fun j hj e => by have e' : j = w.heap.size + 1 + 1 := e; omega)
  exact bodyPost_ret (v := .tuple #[.agg (r.bcells s), .int .i64 0, .int .i64 2]) (res_cell_tmp2 (fn := Tryz.f63) Tryz.results63 _ _ (w.heap.size + 1 + 1) _ _ rfl A2 Tryz.underlying43 rfl (by kernel_rfl)) rfl ⟨rfl, D2⟩
end Go.Proofs.YtccmjljlfgbicaaGreat

