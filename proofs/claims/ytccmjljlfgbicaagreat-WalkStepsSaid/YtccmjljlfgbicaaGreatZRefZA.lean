/- Contract of corrieref07.Begin, further. Printed by begingen.py. -/
import Derived.Test.YtccmjljlfgbicaaGreatZG12
namespace Go.Proofs.YtccmjljlfgbicaaGreat
open Go.ChangeShapes Go.WideShapes Go.ChangeAt Go.RowKit

set_option maxRecDepth 100000 in
set_option maxHeartbeats 2000000 in
theorem rbegin_insert {r : RV} {s : St} (i : Nat) (t : Thr) (key val limit : Int) (w : World) (h : BookIn w r s) (hok : s.ok) (hos : s.ops.length ≤ 4090) (ht : s.thr[i]? = some t) (hfl : t.calls ≠ s.c.calls) (hin : t.inserts ≠ s.c.inserts) :
    Calls Tryz.prog 63 #[r.book s, .int .i64 i, (GCall.v ⟨1, key, val, limit⟩)] w fun e w' => ∃ (g1 c1 g5 c5 g2 c2 : Nat), e = .returned (.tuple #[.agg #[.int .i64 s.c.threads, .int .i64 s.c.buckets, .int .i64 s.c.inserts, .int .i64 s.c.fuel, .int .i64 s.c.calls, .slice (some ⟨g1, 0, none⟩) s.thr.length c1, .slice (some ⟨g5, 0, none⟩) s.thr.length c5, .slice r.ms.1 s.thr.length r.ms.2, .slice (some ⟨g2, 0, none⟩) (s.ops.length + 1) c2, .slice r.ns.1 s.nodes.length r.ns.2], .int .i64 (i * s.c.calls + t.calls), .int .i64 0]) ∧ ReadAt w' (some ⟨g1, 0, none⟩) (intsV ((s.thr.map Thr.calls).set i (t.calls + 1))) ∧ ReadAt w' (some ⟨g5, 0, none⟩) (intsV ((s.thr.map Thr.inserts).set i (t.inserts + 1))) ∧ ReadAt w' (some ⟨g2, 0, none⟩) (opRows s.ops ++ opRow ((i * s.c.calls + t.calls), (⟨1, key, val, limit⟩ : GCall))) ∧ Below w.heap.size w w' ∧ w.heap.size ≤ g1 ∧ w.heap.size ≤ g5 ∧ w.heap.size ≤ g2 := by
  obtain ⟨A3, A5, A6, AB⟩ := three_at w (.cells (r.bcells s) 43) (.cells (GCall.arr ⟨1, key, val, limit⟩) 28) (.cells zero10 43) rfl rfl rfl
  have hmb := may_bounds hok.may
  have hct := hok.counts t (List.mem_of_getElem? ht)
  have hil : i < s.thr.length := (List.getElem?_eq_some_iff.1 ht).1
  have hta : inTop (i : Int) s.thr.length = true := by unfold inTop; simp; omega
  have hc := fun W => ris_any (r := r) (s := s) (i : Int) W
  rw [hta] at hc
  obtain ⟨mb, mo, hmeq, mlt, hm0⟩ := ints_read h.cs (k := i) (x := t.calls) (by simp [ht])
  obtain ⟨nb, no, hneq, nlt, hn0⟩ := ints_read h.is (k := i) (x := t.inserts) (by simp [ht])
  have HM := Lib.hid (And.intro hmeq hm0)
  have HN := Lib.hid (And.intro hneq hn0)
  have hmore : ∀ W, Below w.heap.size w W → _ := fun W (hb : Below w.heap.size w W) => rmore_any (l := s.thr.map Thr.calls) (ao := r.cs.1) (cap := r.cs.2) i W (h.cs.below hb) (by simpa using hil) (by rw [List.length_map]; have := hok.thr; omega) (fun x hx => by
    obtain ⟨u, hu, rfl⟩ := List.mem_map.1 hx
    have := hok.counts u hu
    omega)
  have hmore2 : ∀ W, Below w.heap.size w W → _ := fun W (hb : Below w.heap.size w W) => rmore_any (l := s.thr.map Thr.inserts) (ao := r.is.1) (cap := r.is.2) i W (h.is.below hb) (by simpa using hil) (by rw [List.length_map]; have := hok.thr; omega) (fun x hx => by
    obtain ⟨u, hu, rfl⟩ := List.mem_map.1 hx
    have := hok.counts u hu
    omega)
  simp only [List.length_map] at hmore hmore2
  have hg1 : (s.thr.map Thr.calls).getD i 0 = t.calls := by rw [List.getD_eq_getElem?_getD]; simp [ht]
  have hg2 : (s.thr.map Thr.inserts).getD i 0 = t.inserts := by rw [List.getD_eq_getElem?_getD]; simp [ht]
  rw [hg1, hmeq] at hmore
  rw [hg2, hneq] at hmore2
  have hop := fun W (hcl : t.calls < s.c.calls) => rop_any s.c (i : Int) t.calls W hok.may (by rw [← hok.thr]; omega) (by omega)
  have HO := Lib.hid hmore
  have HO2 := Lib.hid hmore2
  have HOp := Lib.hid hop
  have HOs := Lib.hid (And.intro h.os h.os0)
  obtain ⟨i0, hi0, hz0, hz1, hz2⟩ := info_parts opinfo
  have HK := Lib.hid (And.intro hmb hct)
  have hcl : t.calls < s.c.calls := by omega
  clear hmeq hm0 hneq hn0 h hmb hct hmore hmore2 hop hg1 hg2
  have hfl' : (t.calls == s.c.calls) = false := by simpa using hfl
  have hin' : (t.inserts == s.c.inserts) = false := by simpa using hin
  go_enter Tryz.func63, Tryz.ntmps63
  go_wp2_with (first
    | (refine wpl_st rfl 39 _ _ rfl #[.int .i64 s.c.threads, .int .i64 s.c.buckets, .int .i64 s.c.inserts, .int .i64 s.c.fuel, .int .i64 s.c.calls, .slice (some ⟨g1, 0, none⟩) s.thr.length c1, .slice r.is.1 s.thr.length r.is.2, .slice r.ms.1 s.thr.length r.ms.2, .slice r.os.1 s.ops.length r.os.2, .slice r.ns.1 s.nodes.length r.ns.2] rfl _ rfl B23 (by kernel_rfl) rfl rfl rfl ?_; intro w3 B33 O3; have B35 := B25.only O3 (Nat.succ_ne_self _); have B36 := B26.only O3 (by show ¬ w.heap.size + 1 + 1 = w.heap.size; omega); have D3 := D2.trans (O3.below D2.size fun j hj e => Nat.lt_irrefl _ ((show j = w.heap.size from e) ▸ hj))
       have k3 : w3.cell? ⟨w.heap.size + 1, 0, none⟩ = some (.int .i64 1) := B35.cell 0
       have z2 : w3.cell? ⟨w.heap.size, 2, none⟩ = some (.int .i64 s.c.inserts) := B33.cell 2
       have z6 : w3.cell? ⟨w.heap.size, 6, none⟩ = some (.slice (some ⟨nb, no, none⟩) s.thr.length r.is.2) := by rw [← HN.out.1]; exact B33.cell 6
       have hn2 : w3.cell? ⟨nb, no + i, none⟩ = some (.int .i64 t.inserts) := by
         have := (D3.cell (p := ⟨nb, no + i, none⟩) nlt)
         rw [this]; exact HN.out.2
       have R3 := R2.only O3 fun b o e _ => by
         intro e2
         injection e with e; injection e with e3 e4
         have e2' : b = w.heap.size := e2
         have := B3.lt
         omega)
    | (go_at_call 134; refine (HO.out w1 D1).mono ?_; rintro e w2 ⟨g1, c1, rfl, R2, hb2, hg1⟩; clear z0 z1 z2 z3 z4 z5 z6 z7 z8 z9 zf zl hm2 k0; have B23 := B3.below' hb2; have B25 := B5.below' hb2; have B26 := B6.below' hb2; have D2 := D1.trans (hb2.mono D1.size))
    | (go_at_call 133; refine (hc _).mono ?_; rintro e w1 ⟨rfl, hb1⟩; have B3 := A3.below' hb1; have B5 := A5.below' hb1; have B6 := A6.below' hb1; have D1 := AB.trans (hb1.mono AB.size)
       have k0 : w1.cell? ⟨w.heap.size + 1, 0, none⟩ = some (.int .i64 1) := B5.cell 0
       obtain ⟨⟨z0, z1, z2, z3, z4, z5, z6, z7, z8, z9⟩, zf, zl⟩ := at10 B3
       rw [HM.out.1] at z5
       have hm2 : w1.cell? ⟨mb, mo + i, none⟩ = some (.int .i64 t.calls) := by
         have := (D1.cell (p := ⟨mb, mo + i, none⟩) mlt)
         rw [this]; exact HM.out.2)
    | (refine wpl_ld rfl 43 _ rfl (r.bcells s) rfl _ A3 Tryz.underlying43 rfl (by kernel_rfl) rfl ?_))
  go_quiet (fail)
  have C3 : At (w3.drewN nq) w.heap.size 43 #[.int .i64 s.c.threads, .int .i64 s.c.buckets, .int .i64 s.c.inserts, .int .i64 s.c.fuel, .int .i64 s.c.calls, .slice (some ⟨g1, 0, none⟩) s.thr.length c1, .slice r.is.1 s.thr.length r.is.2, .slice r.ms.1 s.thr.length r.ms.2, .slice r.os.1 s.ops.length r.os.2, .slice r.ns.1 s.nodes.length r.ns.2] := B33
  have C5 : At (w3.drewN nq) (w.heap.size + 1) 28 (GCall.arr ⟨1, key, val, limit⟩) := B35
  have C6 : At (w3.drewN nq) (w.heap.size + 1 + 1) 43 zero10 := B36
  have D4 := bl_drewN D3 nq
  have R4 : ReadAt (w3.drewN nq) (some ⟨g1, 0, none⟩) (intsV ((s.thr.map Thr.calls).set i (t.calls + 1))) := R3.below (bl_drewN (Below.refl _ _) nq)
  clear k3 z2 z6 hn2
  generalize w3.drewN nq = w4 at *
  have k4 : w4.cell? ⟨w.heap.size + 1, 0, none⟩ = some (.int .i64 1) := C5.cell 0
  have y6 : w4.cell? ⟨w.heap.size, 6, none⟩ = some (.slice (some ⟨nb, no, none⟩) s.thr.length r.is.2) := by rw [← HN.out.1]; exact C3.cell 6
  go_wp2_with (first
    | (go_at_call 135; refine (HOp.out _ hcl).mono ?_; rintro e w5 ⟨rfl, hb5⟩; have E3 := X3.below' hb5; have E5 := X5.below' hb5; have E6 := X6.below' hb5; have D5 := DX.trans (hb5.mono DX.size); have R5 := RX.below hb5; have S5 := SX.below hb5)
    | (refine wpl_ld rfl 35 _ rfl s.c.cells rfl _ X3 Tryz.underlying35 rfl (by kernel_rfl) rfl ?_)
    | (refine wpl_st rfl 39 _ _ rfl #[.int .i64 s.c.threads, .int .i64 s.c.buckets, .int .i64 s.c.inserts, .int .i64 s.c.fuel, .int .i64 s.c.calls, .slice (some ⟨g1, 0, none⟩) s.thr.length c1, .slice (some ⟨g5, 0, none⟩) s.thr.length c5, .slice r.ms.1 s.thr.length r.ms.2, .slice r.os.1 s.ops.length r.os.2, .slice r.ns.1 s.nodes.length r.ns.2] rfl _ rfl Ca3 (by kernel_rfl) rfl rfl rfl ?_; intro wb X3 Ob; have X5 := Ca5.only Ob (Nat.succ_ne_self _); have X6 := Ca6.only Ob (by show ¬ w.heap.size + 1 + 1 = w.heap.size; omega); have DX := Da.trans (Ob.below Da.size fun j hj e => Nat.lt_irrefl _ ((show j = w.heap.size from e) ▸ hj))
       have SX := Ra.only Ob fun b o e _ => by
         intro e2
         injection e with e; injection e with e3 e4
         have e2' : b = w.heap.size := e2
         have := C3.lt
         omega
       have RX := Rb.only Ob fun b o e _ => by
         intro e2
         injection e with e; injection e with e3 e4
         have e2' : b = w.heap.size := e2
         have := B3.lt
         omega)
    | (go_at_call 134; refine (HO2.out w4 D4).mono ?_; rintro e wa ⟨g5, c5, rfl, Ra, hba, hg5⟩; clear y6 k4; have Ca3 := C3.below' hba; have Ca5 := C5.below' hba; have Ca6 := C6.below' hba; have Da := D4.trans (hba.mono D4.size); have Rb := R4.below hba))
  have l5 := E3.lt
  refine wp_region_J (l := [_, _, _, _, _, _, _, _, _, _, _]) (BegG w5 w.heap.size (opRows s.ops) s.ops.length (fun v : Value => #[.int .i64 s.c.threads, .int .i64 s.c.buckets, .int .i64 s.c.inserts, .int .i64 s.c.fuel, .int .i64 s.c.calls, .slice (some ⟨g1, 0, none⟩) s.thr.length c1, .slice (some ⟨g5, 0, none⟩) s.thr.length c5, .slice r.ms.1 s.thr.length r.ms.2, v, .slice r.ns.1 s.nodes.length r.ns.2]) (.slice r.os.1 s.ops.length r.os.2) (i * s.c.calls + t.calls) (⟨1, key, val, limit⟩ : GCall)) (by kernel_rfl) (by kernel_rfl) (fun us => BegG.start us E3) ⟨?_, ?_, ?_, ?_, ?_, ?_, ?_, ?_, ?_, ?_, ?_, trivial⟩ ?_
  · intro dn us w6 A hev hy hG hdn hdep K hK
    rw [if_pos (by rfl)]
    unfold Oper.wp execOp
    go_simp
    have hG' := hG.alloc (.cells #[] 93)
    refine hK _ _ ⟨hG'.only, hG'.d108, hG'.d83, hG'.d32, hG'.book, hG'.book', fun _ => ⟨w6.heap.size, rfl, hG.only.size, by rw [World.size_alloc]; omega, fun _ => World.ownsRow_lit w6 #[] 0 hG.only.size (by unfold maxLen; omega) rfl⟩, hG'.f1, hG'.f2, hG'.f3, hG'.f4, hG'.f5, hG'.f6, fun e => ?_, hG'.f8, hG'.f9⟩
    obtain ⟨g, a1, a2, a3, a4, a5⟩ := hG.f7 e
    refine ⟨g, a1, a2, by rw [World.size_alloc]; omega, fun q => (a4 q).below ((Below.refl _ w6).alloc (Nat.le_refl _) _), fun _ a b e2 => ?_⟩
    have e2' : Value.slice (some ⟨w6.heap.size, 0, none⟩) 0 0 = .slice (some ⟨g, 0, none⟩) a b := e2
    injection e2' with e2'
    injection e2' with e2'
    injection e2' with e2'
    omega
  · intro dn us w6 A hev hy hG hdn hdep K hK
    rw [if_pos (by rfl)]
    unfold Oper.wp execOp
    have e3 : A.eval (.tmp 3) = .pointer (some ⟨w.heap.size, 0, none⟩) := by rw [hev]; rfl
    simp only [e3]
    go_simp
    exact hK _ _ ⟨hG.only, hG.d108, hG.d83, hG.d32, hG.book, hG.book', hG.f0, fun _ => rfl, hG.f2, hG.f3, hG.f4, hG.f5, hG.f6, hG.f7, hG.f8, hG.f9⟩
  · intro dn us w6 A hev hy hG hdn hdep K hK
    have d1 : dn 1 = true := allD_mem hdep (by decide)
    have d10 : dn 10 = false := by
      cases q : dn 10 with
      | false => rfl
      | true => rw [hG.d32 (hG.d83 (hG.d108 q))] at hdn; cases hdn
    rw [if_pos (by rfl)]
    unfold Oper.wp execOp
    have e71 : A.eval (.tmp 71) = .pointer (some ⟨w.heap.size, 8, none⟩) := by rw [hev]; exact hG.f1 d1
    have c8 : w6.cell? ⟨w.heap.size, 8, none⟩ = some (.slice r.os.1 s.ops.length r.os.2) := (hG.book d10).cell 8
    simp only [e71]
    go_simp
    exact hK _ _ ⟨hG.only, hG.d108, hG.d83, fun _ => rfl, hG.book, hG.book', hG.f0, hG.f1, fun _ => rfl, hG.f3, hG.f4, hG.f5, hG.f6, hG.f7, hG.f8, hG.f9⟩
  · intro dn us w6 A hev hy hG hdn hdep K hK
    have d0 : dn 0 = true := allD_mem hdep (by decide)
    have d2 : dn 2 = true := allD_mem hdep (by decide)
    obtain ⟨g, u0, gb, gl, own⟩ := hG.f0 d0
    have e70 : A.eval (.tmp 70) = .slice (some ⟨g, 0, none⟩) 0 0 := by rw [hev]; exact u0
    have e72 : A.eval (.tmp 72) = .slice r.os.1 s.ops.length r.os.2 := by rw [hev]; exact hG.f2 d2
    have d8 : dn 8 = false := by
      cases q : dn 8 with
      | false => rfl
      | true => rw [hG.d83 q] at hdn; cases hdn
    have d10 : dn 10 = false := by
      cases q : dn 10 with
      | false => rfl
      | true => rw [hG.d108 q] at d8; cases d8
    refine step_app rfl (.tmp 70) (.tmp 72) 40 rfl w5.heap.size 93 i0 _ 5 40 Tryz.underlying40 hi0 hz0 hz1 hz2 rfl (by decide) e70 (own hdn) e72 (opRows_len s.ops) (HOs.out.1.below (D5.trans (hG.only.below D5.size fun j hj e => Nat.lt_irrefl _ ((show j = w.heap.size from e) ▸ hj)))) (fun e _ => by rw [HOs.out.2 (List.eq_nil_of_length_eq_zero e)]) (opRows_one _) (by unfold maxLen; omega) (by omega) hG.only.size ?_
    intro g' k' w7 R Gr g'b
    rw [Nat.zero_add, List.nil_append] at R
    rw [Nat.zero_add]
    refine hK _ _ ⟨only_grown hG.only Gr gb, fun e => ?_, fun _ => rfl, fun _ => d2, fun e => (hG.book d10).grown Gr (by omega), fun e => ?_, fun _ => ⟨g, u0, gb, Nat.lt_of_lt_of_le gl Gr.size, fun q => (nomatch (show true = false from q))⟩, hG.f1, hG.f2, fun _ => ⟨g', k', rfl, g'b, fun _ => R⟩, hG.f4, hG.f5, hG.f6, fun e => ?_, fun e => ?_, hG.f9⟩
    · exact hG.d108 e
    · rw [show dn 10 = true from e] at d10; cases d10
    · obtain ⟨g7, a1, a2, a3, a4, a5⟩ := hG.f7 e
      refine ⟨g7, a1, a2, Nat.lt_of_lt_of_le a3 Gr.size, fun q => (a4 q).grown Gr fun e2 => a5 d0 0 0 (by rw [u0, e2]), a5⟩
    · rw [show dn 8 = true from e] at d8; cases d8
  · intro dn us w6 A hev hy hG hdn hdep K hK
    rw [if_pos (by rfl)]
    unfold Oper.wp execOp
    have e10 : A.eval (.tmp 10) = .int .i64 (i * s.c.calls + t.calls) := by rw [hev]; rfl
    simp only [e10]
    go_simp
    exact hK _ _ ⟨hG.only, hG.d108, hG.d83, hG.d32, hG.book, hG.book', hG.f0, hG.f1, hG.f2, hG.f3, fun _ => rfl, hG.f5, hG.f6, hG.f7, hG.f8, hG.f9⟩
  · intro dn us w6 A hev hy hG hdn hdep K hK
    have e5 : A.eval (.tmp 5) = .pointer (some ⟨w.heap.size + 1, 0, none⟩) := by rw [hev]; rfl
    refine step_list (wpl_ld rfl 28 (.tmp 5) rfl (GCall.arr ⟨1, key, val, limit⟩) e5 _ (E5.only hG.only (Nat.succ_ne_self _)) Tryz.underlying28 rfl (by kernel_rfl) rfl ⟨rfl, ?_⟩)
    exact hK _ _ ⟨hG.only, hG.d108, hG.d83, hG.d32, hG.book, hG.book', hG.f0, hG.f1, hG.f2, hG.f3, hG.f4, fun _ => rfl, hG.f6, hG.f7, hG.f8, hG.f9⟩
  · intro dn us w6 A hev hy hG hdn hdep K hK
    have d4 : dn 4 = true := allD_mem hdep (by decide)
    have d5 : dn 5 = true := allD_mem hdep (by decide)
    rw [if_pos (by rfl)]
    unfold Oper.wp execOp
    have e74 : A.eval (.tmp 74) = .int .i64 (i * s.c.calls + t.calls) := by rw [hev]; exact hG.f4 d4
    have e75 : A.eval (.tmp 75) = .agg (GCall.arr ⟨1, key, val, limit⟩) := by rw [hev]; exact hG.f5 d5
    generalize A.eval = ev at e74 e75 ⊢
    go_simp
    exact hK _ _ ⟨hG.only, hG.d108, hG.d83, hG.d32, hG.book, hG.book', hG.f0, hG.f1, hG.f2, hG.f3, hG.f4, hG.f5, fun _ => rfl, hG.f7, hG.f8, hG.f9⟩
  · intro dn us w6 A hev hy hG hdn hdep K hK
    have d6 : dn 6 = true := allD_mem hdep (by decide)
    rw [if_pos (by rfl)]
    unfold Oper.wp execOp
    have e76 : A.eval (.tmp 76) = .agg (opRow ((i * s.c.calls + t.calls), (⟨1, key, val, limit⟩ : GCall))).toArray := by rw [hev]; exact hG.f6 d6
    unfold opRow at e76
    generalize A.eval = ev at e76 ⊢
    go_simp
    have hG' := hG.alloc (.cells (opRow ((i * s.c.calls + t.calls), (⟨1, key, val, limit⟩ : GCall))).toArray 93)
    refine hK _ _ ⟨hG'.only, hG'.d108, hG'.d83, hG'.d32, hG'.book, hG'.book', hG'.f0, hG'.f1, hG'.f2, hG'.f3, hG'.f4, hG'.f5, hG'.f6, fun e => ⟨w6.heap.size, rfl, hG.only.size, by rw [World.size_alloc]; omega, fun _ => readAt_row (World.ownsRow_lit (base := 0) (size := 5) w6 (opRow ((i * s.c.calls + t.calls), (⟨1, key, val, limit⟩ : GCall))).toArray 1 (Nat.zero_le _) (by unfold maxLen; omega) rfl), fun d0 a b e2 => ?_⟩, hG'.f8, hG'.f9⟩
    obtain ⟨g, a1, a2, a3, _⟩ := hG.f0 d0
    have e2' : us 0 = .slice (some ⟨w6.heap.size, 0, none⟩) a b := e2
    rw [a1] at e2'
    injection e2' with e2'
    injection e2' with e2'
    injection e2' with e2'
    omega
  · intro dn us w6 A hev hy hG hdn hdep K hK
    have d3 : dn 3 = true := allD_mem hdep (by decide)
    have d7 : dn 7 = true := allD_mem hdep (by decide)
    obtain ⟨g, kk, u3, gb, own⟩ := hG.f3 d3
    obtain ⟨g7, u7, a2, a3, a4, a5⟩ := hG.f7 d7
    have e73 : A.eval (.tmp 73) = .slice (some ⟨g, 0, none⟩) s.ops.length kk := by rw [hev]; exact u3
    have e77 : A.eval (.tmp 77) = .slice (some ⟨g7, 0, none⟩) 1 1 := by rw [hev]; exact u7
    have d10 : dn 10 = false := by
      cases q : dn 10 with
      | false => rfl
      | true => rw [hG.d108 q] at hdn; cases hdn
    refine step_app rfl (.tmp 73) (.tmp 77) 40 rfl w5.heap.size 93 i0 _ 5 40 Tryz.underlying40 hi0 hz0 hz1 hz2 rfl (by decide) e73 (own hdn) e77 (show (opRow ((i * s.c.calls + t.calls), (⟨1, key, val, limit⟩ : GCall))).length = 1 * 5 from rfl) (a4 hdn) (fun e _ => by omega) (opRow_one _) (by unfold maxLen; omega) (by omega) hG.only.size ?_
    intro g' k' w7 R Gr g'b
    refine hK _ _ ⟨only_grown hG.only Gr gb, fun _ => rfl, fun _ => d3, hG.d32, fun e => (hG.book d10).grown Gr (by omega), fun e => ?_, fun e => ?_, hG.f1, hG.f2, fun _ => ⟨g, kk, u3, gb, fun q => (nomatch (show true = false from q))⟩, hG.f4, hG.f5, hG.f6, fun e => ⟨g7, u7, a2, Nat.lt_of_lt_of_le a3 Gr.size, fun q => (nomatch (show true = false from q)), a5⟩, fun _ => ⟨g', k', rfl, g'b, R⟩, hG.f9⟩
    · rw [show dn 10 = true from e] at d10; cases d10
    · obtain ⟨g0, b1, b2, b3, b4⟩ := hG.f0 e
      exact ⟨g0, b1, b2, Nat.lt_of_lt_of_le b3 Gr.size, fun q => by rw [show dn 3 = false from q] at d3; cases d3⟩
  · intro dn us w6 A hev hy hG hdn hdep K hK
    rw [if_pos (by rfl)]
    unfold Oper.wp execOp
    have e3 : A.eval (.tmp 3) = .pointer (some ⟨w.heap.size, 0, none⟩) := by rw [hev]; rfl
    simp only [e3]
    go_simp
    exact hK _ _ ⟨hG.only, hG.d108, hG.d83, hG.d32, hG.book, hG.book', hG.f0, hG.f1, hG.f2, hG.f3, hG.f4, hG.f5, hG.f6, hG.f7, hG.f8, fun _ => rfl⟩
  · intro dn us w6 A hev hy hG hdn hdep K hK
    have d8 : dn 8 = true := allD_mem hdep (by decide)
    have d9 : dn 9 = true := allD_mem hdep (by decide)
    obtain ⟨g, kk, u8, gb, own⟩ := hG.f8 d8
    have e79 : A.eval (.tmp 79) = .pointer (some ⟨w.heap.size, 8, none⟩) := by rw [hev]; exact hG.f9 d9
    have e78 : A.eval (.tmp 78) = .slice (some ⟨g, 0, none⟩) (s.ops.length + 1) kk := by rw [hev]; exact u8
    refine step_list (wpl_st rfl 40 (.tmp 79) (.tmp 78) rfl ((fun v : Value => #[.int .i64 s.c.threads, .int .i64 s.c.buckets, .int .i64 s.c.inserts, .int .i64 s.c.fuel, .int .i64 s.c.calls, .slice (some ⟨g1, 0, none⟩) s.thr.length c1, .slice (some ⟨g5, 0, none⟩) s.thr.length c5, .slice r.ms.1 s.thr.length r.ms.2, v, .slice r.ns.1 s.nodes.length r.ns.2]) (.slice (some ⟨g, 0, none⟩) (s.ops.length + 1) kk)) e79 _ e78 (hG.book hdn) (by kernel_rfl) rfl rfl rfl fun w7 A7 O7 => ⟨rfl, ?_⟩)
    have hO := hG.only.trans O7
    refine hK _ _ ⟨hO, fun _ => d8, hG.d83, hG.d32, fun q => (nomatch (show true = false from q)), fun _ => by show At w7 _ _ ((fun v : Value => #[.int .i64 s.c.threads, .int .i64 s.c.buckets, .int .i64 s.c.inserts, .int .i64 s.c.fuel, .int .i64 s.c.calls, .slice (some ⟨g1, 0, none⟩) s.thr.length c1, .slice (some ⟨g5, 0, none⟩) s.thr.length c5, .slice r.ms.1 s.thr.length r.ms.2, v, .slice r.ns.1 s.nodes.length r.ns.2]) (us 8)); rw [u8]; exact A7, fun e => ?_, hG.f1, hG.f2, fun e => ?_, hG.f4, hG.f5, hG.f6, fun e => ?_, fun e => ⟨g, kk, u8, gb, ownsRow_only own O7 (by show ¬ g = w.heap.size; omega)⟩, hG.f9⟩
    · obtain ⟨g0, b1, b2, b3, b4⟩ := hG.f0 e
      exact ⟨g0, b1, b2, Nat.lt_of_lt_of_le b3 O7.size, fun q => ownsRow_only (b4 q) O7 (by show ¬ g0 = w.heap.size; omega)⟩
    · obtain ⟨g0, k0, b1, b2, b4⟩ := hG.f3 e
      exact ⟨g0, k0, b1, b2, fun q => ownsRow_only (b4 q) O7 (by show ¬ g0 = w.heap.size; omega)⟩
    · obtain ⟨g0, b1, b2, b3, b4, b5⟩ := hG.f7 e
      exact ⟨g0, b1, b2, Nat.lt_of_lt_of_le b3 O7.size, fun q => (by rw [show dn 8 = false from q] at d8; cases d8), b5⟩
  intro dn us w7 hG hall
  obtain ⟨g2, c2, u8, g2b, R8⟩ := hG.f8 (hall 8 (by decide))
  have F3 := hG.book' (hall 10 (by decide))
  rw [u8] at F3
  have F6 : At w7 (w.heap.size + 1 + 1) 43 zero10 := E6.only hG.only (by show ¬ w.heap.size + 1 + 1 = w.heap.size; omega)
  have D7 := D5.trans (hG.only.below D5.size fun j hj e => Nat.lt_irrefl _ ((show j = w.heap.size from e) ▸ hj))
  have R7 := R5.only hG.only fun b o e _ => by
    intro e2
    injection e with e; injection e with e3 e4
    have e2' : b = w.heap.size := e2
    have := B3.lt
    omega
  have S7 := S5.only hG.only fun b o e _ => by
    intro e2
    injection e with e; injection e with e3 e4
    have e2' : b = w.heap.size := e2
    have := C3.lt
    omega
  simp only [fillA, fillT, Nat.reduceAdd, List.setIfInBounds_toArray, List.set_cons_zero, List.set_cons_succ]
  clear hG hall u8
  go_wp2_with (first
    | (refine wpl_st rfl 43 _ _ rfl #[.int .i64 s.c.threads, .int .i64 s.c.buckets, .int .i64 s.c.inserts, .int .i64 s.c.fuel, .int .i64 s.c.calls, .slice (some ⟨g1, 0, none⟩) s.thr.length c1, .slice (some ⟨g5, 0, none⟩) s.thr.length c5, .slice r.ms.1 s.thr.length r.ms.2, .slice (some ⟨g2, 0, none⟩) (s.ops.length + 1) c2, .slice r.ns.1 s.nodes.length r.ns.2] rfl _ rfl F6 (by kernel_rfl) rfl rfl rfl ?_; intro w8 A8 O8)
    | (refine wpl_ld rfl 43 _ rfl #[.int .i64 s.c.threads, .int .i64 s.c.buckets, .int .i64 s.c.inserts, .int .i64 s.c.fuel, .int .i64 s.c.calls, .slice (some ⟨g1, 0, none⟩) s.thr.length c1, .slice (some ⟨g5, 0, none⟩) s.thr.length c5, .slice r.ms.1 s.thr.length r.ms.2, .slice (some ⟨g2, 0, none⟩) (s.ops.length + 1) c2, .slice r.ns.1 s.nodes.length r.ns.2] rfl _ F3 Tryz.underlying43 rfl (by kernel_rfl) rfl ?_))
  have D8 := D7.trans (O8.below D7.size fun j hj e => by have e' : j = w.heap.size + 1 + 1 := e; omega)
  have l56 := E6.lt
  have q1 := R7.only O8 fun b o e _ => by
    intro e2
    injection e with e; injection e with e3 e4
    have e2' : b = w.heap.size + 1 + 1 := e2
    have := B6.lt
    omega
  have q5 := S7.only O8 fun b o e _ => by
    intro e2
    injection e with e; injection e with e3 e4
    have e2' : b = w.heap.size + 1 + 1 := e2
    have := C6.lt
    omega
  have q2 := (readAt_row R8).only O8 fun b o e _ => by
    intro e2
    injection e with e; injection e with e3 e4
    have e2' : b = w.heap.size + 1 + 1 := e2
    omega
  exact bodyPost_ret (v := .tuple #[.agg #[.int .i64 s.c.threads, .int .i64 s.c.buckets, .int .i64 s.c.inserts, .int .i64 s.c.fuel, .int .i64 s.c.calls, .slice (some ⟨g1, 0, none⟩) s.thr.length c1, .slice (some ⟨g5, 0, none⟩) s.thr.length c5, .slice r.ms.1 s.thr.length r.ms.2, .slice (some ⟨g2, 0, none⟩) (s.ops.length + 1) c2, .slice r.ns.1 s.nodes.length r.ns.2], .int .i64 (i * s.c.calls + t.calls), .int .i64 0]) (res_cell_tmp2 (fn := Tryz.f63) Tryz.results63 _ _ (w.heap.size + 1 + 1) _ _ rfl A8 Tryz.underlying43 rfl (by kernel_rfl)) rfl ⟨g1, c1, g5, c5, g2, c2, rfl, q1, q5, q2, D8, by have := D1.size; omega, by have := D4.size; omega, by have := D5.size; omega⟩
end Go.Proofs.YtccmjljlfgbicaaGreat

