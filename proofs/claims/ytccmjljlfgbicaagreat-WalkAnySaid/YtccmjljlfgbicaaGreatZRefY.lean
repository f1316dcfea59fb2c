/- Contract of corrieref07.Begin, further. Printed by begingen.py. -/
import Derived.Test.YtccmjljlfgbicaaGreatZG12
namespace Go.Proofs.YtccmjljlfgbicaaGreat
open Go.ChangeShapes Go.WideShapes Go.ChangeAt Go.RowKit

set_option maxRecDepth 100000 in
set_option maxHeartbeats 1000000 in
theorem rbegin_full {r : RV} {s : St} (i : Nat) (t : Thr) (key val limit : Int) (w : World) (h : BookIn w r s) (hok : s.ok) (ht : s.thr[i]? = some t) (hfl : t.calls ≠ s.c.calls) (hin : t.inserts = s.c.inserts) :
    Calls Tryz.prog 63 #[r.book s, .int .i64 i, (GCall.v ⟨1, key, val, limit⟩)] w fun e w' => ∃ (g1 c1 : Nat), e = .returned (.tuple #[.agg #[.int .i64 s.c.threads, .int .i64 s.c.buckets, .int .i64 s.c.inserts, .int .i64 s.c.fuel, .int .i64 s.c.calls, .slice (some ⟨g1, 0, none⟩) s.thr.length c1, .slice r.is.1 s.thr.length r.is.2, .slice r.ms.1 s.thr.length r.ms.2, .slice r.os.1 s.ops.length r.os.2, .slice r.ns.1 s.nodes.length r.ns.2], .int .i64 0, .int .i64 3]) ∧ ReadAt w' (some ⟨g1, 0, none⟩) (intsV ((s.thr.map Thr.calls).set i (t.calls + 1))) ∧ Below w.heap.size w w' ∧ w.heap.size ≤ g1 := by
  obtain ⟨A3, A5, A6, AB⟩ := three_at w (.cells (r.bcells s) 43) (.cells (GCall.arr ⟨1, key, val, limit⟩) 28) (.cells zero10 43) rfl rfl rfl
  have hmb := may_bounds hok.may
  have hct := hok.counts t (List.mem_of_getElem? ht)
  have hil : i < s.thr.length := (List.getElem?_eq_some_iff.1 ht).1
  have hta : inTop (i : Int) s.thr.length = true := by unfold inTop; simp; omega
  have hc := fun W => ris_any (r := r) (s := s) (i : Int) W
  rw [hta] at hc
  obtain ⟨mb, mo, hmeq, mlt, hm0⟩ := ints_read h.cs (k := i) (x := t.calls) (by simp [ht])
  obtain ⟨nb, no, hneq, nlt, hn0⟩ := ints_read h.is (k := i) (x := t.inserts) (by simp [ht])
  have HM := Lib.hid (And.intro hmeq hm0)
  have HN := Lib.hid (And.intro hneq hn0)
  have hmore : ∀ W, Below w.heap.size w W → _ := fun W (hb : Below w.heap.size w W) => rmore_any (l := s.thr.map Thr.calls) (ao := r.cs.1) (cap := r.cs.2) i W (h.cs.below hb) (by simpa using hil) (by rw [List.length_map]; have := hok.thr; omega) (fun x hx => by
    obtain ⟨u, hu, rfl⟩ := List.mem_map.1 hx
    have := hok.counts u hu
    omega)
  have hmore2 : ∀ W, Below w.heap.size w W → _ := fun W (hb : Below w.heap.size w W) => rmore_any (l := s.thr.map Thr.inserts) (ao := r.is.1) (cap := r.is.2) i W (h.is.below hb) (by simpa using hil) (by rw [List.length_map]; have := hok.thr; omega) (fun x hx => by
    obtain ⟨u, hu, rfl⟩ := List.mem_map.1 hx
    have := hok.counts u hu
    omega)
  simp only [List.length_map] at hmore hmore2
  have hg1 : (s.thr.map Thr.calls).getD i 0 = t.calls := by rw [List.getD_eq_getElem?_getD]; simp [ht]
  have hg2 : (s.thr.map Thr.inserts).getD i 0 = t.inserts := by rw [List.getD_eq_getElem?_getD]; simp [ht]
  rw [hg1, hmeq] at hmore
  rw [hg2, hneq] at hmore2
  have hop := fun W (hcl : t.calls < s.c.calls) => rop_any s.c (i : Int) t.calls W hok.may (by rw [← hok.thr]; omega) (by omega)
  have HO := Lib.hid hmore
  have HO2 := Lib.hid hmore2
  have HOp := Lib.hid hop
  have HOs := Lib.hid (And.intro h.os h.os0)
  obtain ⟨i0, hi0, hz0, hz1, hz2⟩ := info_parts opinfo
  have HK := Lib.hid (And.intro hmb hct)
  clear hmeq hm0 hneq hn0 h hmb hct hmore hmore2 hop hg1 hg2
  have hfl' : (t.calls == s.c.calls) = false := by simpa using hfl
  have hin' : (t.inserts == s.c.inserts) = true := by simpa using hin
  go_enter Tryz.func63, Tryz.ntmps63
  go_wp2_with (first
    | (refine wpl_st rfl 39 _ _ rfl #[.int .i64 s.c.threads, .int .i64 s.c.buckets, .int .i64 s.c.inserts, .int .i64 s.c.fuel, .int .i64 s.c.calls, .slice (some ⟨g1, 0, none⟩) s.thr.length c1, .slice r.is.1 s.thr.length r.is.2, .slice r.ms.1 s.thr.length r.ms.2, .slice r.os.1 s.ops.length r.os.2, .slice r.ns.1 s.nodes.length r.ns.2] rfl _ rfl B23 (by kernel_rfl) rfl rfl rfl ?_; intro w3 B33 O3; have B35 := B25.only O3 (Nat.succ_ne_self _); have B36 := B26.only O3 (by show ¬ w.heap.size + 1 + 1 = w.heap.size; omega); have D3 := D2.trans (O3.below D2.size fun j hj e => Nat.lt_irrefl _ ((show j = w.heap.size from e) ▸ hj))
       have k3 : w3.cell? ⟨w.heap.size + 1, 0, none⟩ = some (.int .i64 1) := B35.cell 0
       have z2 : w3.cell? ⟨w.heap.size, 2, none⟩ = some (.int .i64 s.c.inserts) := B33.cell 2
       have z6 : w3.cell? ⟨w.heap.size, 6, none⟩ = some (.slice (some ⟨nb, no, none⟩) s.thr.length r.is.2) := by rw [← HN.out.1]; exact B33.cell 6
       have hn2 : w3.cell? ⟨nb, no + i, none⟩ = some (.int .i64 t.inserts) := by
         have := (D3.cell (p := ⟨nb, no + i, none⟩) nlt)
         rw [this]; exact HN.out.2
       have R3 := R2.only O3 fun b o e _ => by
         intro e2
         injection e with e; injection e with e3 e4
         have e2' : b = w.heap.size := e2
         have := B3.lt
         omega)
    | (go_at_call 134; refine (HO.out w1 D1).mono ?_; rintro e w2 ⟨g1, c1, rfl, R2, hb2, hg1⟩; clear z0 z1 z2 z3 z4 z5 z6 z7 z8 z9 zf zl hm2 k0; have B23 := B3.below' hb2; have B25 := B5.below' hb2; have B26 := B6.below' hb2; have D2 := D1.trans (hb2.mono D1.size))
    | (go_at_call 133; refine (hc _).mono ?_; rintro e w1 ⟨rfl, hb1⟩; have B3 := A3.below' hb1; have B5 := A5.below' hb1; have B6 := A6.below' hb1; have D1 := AB.trans (hb1.mono AB.size)
       have k0 : w1.cell? ⟨w.heap.size + 1, 0, none⟩ = some (.int .i64 1) := B5.cell 0
       obtain ⟨⟨z0, z1, z2, z3, z4, z5, z6, z7, z8, z9⟩, zf, zl⟩ := at10 B3
       rw [HM.out.1] at z5
       have hm2 : w1.cell? ⟨mb, mo + i, none⟩ = some (.int .i64 t.calls) := by
         have := (D1.cell (p := ⟨mb, mo + i, none⟩) mlt)
         rw [this]; exact HM.out.2)
    | (refine wpl_ld rfl 43 _ rfl (r.bcells s) rfl _ A3 Tryz.underlying43 rfl (by kernel_rfl) rfl ?_))
  go_quiet (fail)
  have C3 : At (w3.drewN nq) w.heap.size 43 #[.int .i64 s.c.threads, .int .i64 s.c.buckets, .int .i64 s.c.inserts, .int .i64 s.c.fuel, .int .i64 s.c.calls, .slice (some ⟨g1, 0, none⟩) s.thr.length c1, .slice r.is.1 s.thr.length r.is.2, .slice r.ms.1 s.thr.length r.ms.2, .slice r.os.1 s.ops.length r.os.2, .slice r.ns.1 s.nodes.length r.ns.2] := B33
  have C5 : At (w3.drewN nq) (w.heap.size + 1) 28 (GCall.arr ⟨1, key, val, limit⟩) := B35
  have C6 : At (w3.drewN nq) (w.heap.size + 1 + 1) 43 zero10 := B36
  have D4 := bl_drewN D3 nq
  have R4 : ReadAt (w3.drewN nq) (some ⟨g1, 0, none⟩) (intsV ((s.thr.map Thr.calls).set i (t.calls + 1))) := R3.below (bl_drewN (Below.refl _ _) nq)
  clear k3 z2 z6 hn2
  generalize w3.drewN nq = w4 at *
  go_wp2_with (first
    | (refine wpl_st rfl 43 _ _ rfl #[.int .i64 s.c.threads, .int .i64 s.c.buckets, .int .i64 s.c.inserts, .int .i64 s.c.fuel, .int .i64 s.c.calls, .slice (some ⟨g1, 0, none⟩) s.thr.length c1, .slice r.is.1 s.thr.length r.is.2, .slice r.ms.1 s.thr.length r.ms.2, .slice r.os.1 s.ops.length r.os.2, .slice r.ns.1 s.nodes.length r.ns.2] rfl _ rfl C6 (by kernel_rfl) rfl rfl rfl ?_; intro w5 A5 O5)
    | (refine wpl_ld rfl 43 _ rfl #[.int .i64 s.c.threads, .int .i64 s.c.buckets, .int .i64 s.c.inserts, .int .i64 s.c.fuel, .int .i64 s.c.calls, .slice (some ⟨g1, 0, none⟩) s.thr.length c1, .slice r.is.1 s.thr.length r.is.2, .slice r.ms.1 s.thr.length r.ms.2, .slice r.os.1 s.ops.length r.os.2, .slice r.ns.1 s.nodes.length r.ns.2] rfl _ C3 Tryz.underlying43 rfl (by kernel_rfl) rfl ?_))
  have D5 := D4.trans (O5.below D4.size fun j hj e => by have e' : j = w.heap.size + 1 + 1 := e; omega)
  have q1 := R4.only O5 fun b o e _ => by
    intro e2
    injection e with e; injection e with e3 e4
    have e2' : b = w.heap.size + 1 + 1 := e2
    have := B6.lt
    omega
  exact bodyPost_ret (v := .tuple #[.agg #[.int .i64 s.c.threads, .int .i64 s.c.buckets, .int .i64 s.c.inserts, .int .i64 s.c.fuel, .int .i64 s.c.calls, .slice (some ⟨g1, 0, none⟩) s.thr.length c1, .slice r.is.1 s.thr.length r.is.2, .slice r.ms.1 s.thr.length r.ms.2, .slice r.os.1 s.ops.length r.os.2, .slice r.ns.1 s.nodes.length r.ns.2], .int .i64 0, .int .i64 3]) (res_cell_tmp2 (fn := Tryz.f63) Tryz.results63 _ _ (w.heap.size + 1 + 1) _ _ rfl A5 Tryz.underlying43 rfl (by kernel_rfl)) rfl ⟨g1, c1, rfl, q1, D5, by have := D1.size; omega⟩
end Go.Proofs.YtccmjljlfgbicaaGreat

