/- Contract of corrieref10.judge: the ways behind 'not over' (1). (Printed by judgegen.py.) -/
import Derived.Test.YtccmjljlfgbicaaGreatZG17
import Derived.Deep.RegionHeld3
namespace Go.Proofs.YtccmjljlfgbicaaGreat
open Go.ChangeShapes Go.WideShapes Go.ChangeAt Go.RowKit

set_option maxRecDepth 100000 in
set_option maxHeartbeats 2000000 in
theorem rjudge_other {r : RV} {s : St} (x : Walk) (v : Int) (w : World) (h : RefIn w r s) (hz : Sized s) (hv : ¬ 1 < v) (hk : (s.key x.curr == x.key) = false) (hn : 0 ≤ x.next ∧ x.next ≤ 18446744073709551615) :
    Calls Tryz.prog 163 #[r.val s, x.val, .int .u64 v] w fun e w' => e = .returned (Walk.val (s.advance x)) ∧ Below w.heap.size w w' := by
  have HV := Lib.hid (show decide (1 < v) = false by simpa using hv)
  clear hv
  have H := Lib.hid h
  have HZ := Lib.hid hz
  have A0 := ((At.new w 45 (r.cells s)).alloc (.cells x.cells 76)).alloc (.cells zeroW 76)
  have A1 := (At.new1 w (.cells (r.cells s) 45) 76 x.cells).alloc (.cells zeroW 76)
  have A2 : At (((w.alloc (.cells (r.cells s) 45)).alloc (.cells x.cells 76)).alloc (.cells zeroW 76)) (w.heap.size + 1 + 1) 76 zeroW := by
    have := At.new1 (w.alloc (.cells (r.cells s) 45)) (.cells x.cells 76) 76 zeroW
    rwa [World.size_alloc] at this
  have B0 : Below w.heap.size w (((w.alloc (.cells (r.cells s) 45)).alloc (.cells x.cells 76)).alloc (.cells zeroW 76)) := (below_twice w _ _).alloc (by simp; omega) _
  clear h hz
  go_enter Tryz.func163, Tryz.ntmps163
  go_upto_region 1 with fail
  generalize (((w.alloc (.cells (r.cells s) 45)).alloc (.cells x.cells 76)).alloc (.cells zeroW 76)) = w0 at *
  obtain ⟨⟨b0, b1, b2, b3, b4, b5, b6, b7, b8, b9, b10, b11, b12, b13, b14, b15, b16⟩, bf, bl⟩ := at17 A0
  obtain ⟨⟨y0, y1, y2, y3, y4, y5, y6, y7, y8, y9⟩, yf, yl⟩ := at10 A1
  go_wp2_with (first
    | (go_at_call 78; refine (rcarried_any x.curr _ (H.out.book.below B0) HZ.out.2).mono ?_; rintro e w1 ⟨rfl, hb1⟩; have K0 := A0.below' hb1; have K1 := A1.below' hb1; have K2 := A2.below' hb1; obtain ⟨⟨-, -, -, -, -, -, -, e7, e8, e9, e10, e11, e12, e13, e14, e15, e16⟩, ef, el⟩ := at17 K0; obtain ⟨⟨u0, u1, u2, u3, u4, u5, u6, u7, u8, u9⟩, uf, ul⟩ := at10 K1)
    | (go_at_call 180; refine (rover_any v _).mono ?_; rintro e w2 ⟨rfl, rfl⟩; rw [HV.out]))
  have B1 : Below w.heap.size w w1 := B0.trans (hb1.mono B0.size)
  clear b0 b1 b2 b3 b4 b5 b6 b7 b8 b9 b10 b11 b12 b13 b14 b15 b16 bf bl y0 y1 y2 y3 y4 y5 y6 y7 y8 y9 yf yl A0 A1 A2
  go_region_held3 (fun w' => w'.cell? ⟨w.heap.size, 7, none⟩ = some (.int .i64 s.c.threads) ∧ w'.cell? ⟨w.heap.size, 8, none⟩ = some (.int .i64 s.c.buckets) ∧ w'.cell? ⟨w.heap.size, 9, none⟩ = some (.int .i64 s.c.inserts) ∧ w'.cell? ⟨w.heap.size, 10, none⟩ = some (.int .i64 s.c.fuel) ∧ w'.cell? ⟨w.heap.size, 11, none⟩ = some (.int .i64 s.c.calls) ∧ w'.cell? ⟨w.heap.size, 12, none⟩ = some (.slice r.cs.1 s.thr.length r.cs.2) ∧ w'.cell? ⟨w.heap.size, 13, none⟩ = some (.slice r.is.1 s.thr.length r.is.2) ∧ w'.cell? ⟨w.heap.size, 14, none⟩ = some (.slice r.ms.1 s.thr.length r.ms.2) ∧ w'.cell? ⟨w.heap.size, 15, none⟩ = some (.slice r.os.1 s.ops.length r.os.2) ∧ w'.cell? ⟨w.heap.size, 16, none⟩ = some (.slice r.ns.1 s.nodes.length r.ns.2) ∧ w'.cell? ⟨w.heap.size + 1, 4, none⟩ = some (.int .i64 x.curr) ∧ w'.cell? ⟨w.heap.size + 1, 0, none⟩ = some (.int .u64 x.key))
    (first | go_keep | exact ⟨d7, d8, d9, d10, d11, d12, d13, d14, d15, d16, t4, t0⟩)
    ((first | (go_at_call 148; refine (rkey_any x.curr _ (H.out.book.below B1.drew) HZ.out.1 HZ.out.2).mono ?_; rintro e w3 ⟨rfl, hb3⟩; have L0 := K0.drew.below' hb3; have L1 := K1.drew.below' hb3; have L2 := K2.drew.below' hb3; obtain ⟨⟨d0, d1, d2, d3, d4, d5, d6, d7, d8, d9, d10, d11, d12, d13, d14, d15, d16⟩, df, dl⟩ := at17 L0; obtain ⟨⟨t0, t1, t2, t3, t4, t5, t6, t7, t8, t9⟩, tf, tl⟩ := at10 L1; obtain ⟨⟨z0, z1, z2, z3, z4, z5, z6, z7, z8, z9⟩, zf, zl⟩ := at10 L2)))
  have B3 : Below w.heap.size w w3 := B1.drew.trans (hb3.mono B1.size)
  clear e7 e8 e9 e10 e11 e12 e13 e14 e15 e16 ef el u0 u1 u2 u3 u4 u5 u6 u7 u8 u9 uf ul K0 K1 K2
  go_wp2_with (go_at_call 191; refine (radvance_any (x) _ (H.out.below (B3)) HZ.out hn).mono ?_; rintro e w4 ⟨rfl, hb4⟩; have M2 := L2.below' hb4; clear z0 z1 z2 z3 z4 z5 z6 z7 z8 z9 zf zl; obtain ⟨⟨z0, z1, z2, z3, z4, z5, z6, z7, z8, z9⟩, zf, zl⟩ := at10 M2)
  have B4 : Below w.heap.size w w4 := below_then hb4 (by first | exact B3 | exact B3) (Nat.le_refl _)
  exact bodyPost_ret (v := Walk.val (s.advance x)) (res_cell (fn := Tryz.f163) Tryz.results163 _ _ (w.heap.size + 1 + 1) _ _ rfl (put10 M2 _ _ _ _ _ _ _ _ _ _).1 Tryz.underlying76 rfl (by kernel_rfl)) rfl ⟨rfl, below_set (below_set (below_set (below_set (below_set (below_set (below_set (below_set (below_set (below_set (B4) (by omega)) (by omega)) (by omega)) (by omega)) (by omega)) (by omega)) (by omega)) (by omega)) (by omega)) (by omega)⟩

set_option maxRecDepth 100000 in
set_option maxHeartbeats 2000000 in
theorem rjudge_pass {r : RV} {s : St} (x : Walk) (v : Int) (w : World) (h : RefIn w r s) (hz : Sized s) (hv : ¬ 1 < v) (hk : (s.key x.curr == x.key) = true) (hm2 : (x.mode == 2) = false) (hm1 : (x.mode == 1) = false) (hn : 0 ≤ x.next ∧ x.next ≤ 18446744073709551615) :
    Calls Tryz.prog 163 #[r.val s, x.val, .int .u64 v] w fun e w' => e = .returned (Walk.val (s.advance x)) ∧ Below w.heap.size w w' := by
  have HV := Lib.hid (show decide (1 < v) = false by simpa using hv)
  clear hv
  have H := Lib.hid h
  have HZ := Lib.hid hz
  have A0 := ((At.new w 45 (r.cells s)).alloc (.cells x.cells 76)).alloc (.cells zeroW 76)
  have A1 := (At.new1 w (.cells (r.cells s) 45) 76 x.cells).alloc (.cells zeroW 76)
  have A2 : At (((w.alloc (.cells (r.cells s) 45)).alloc (.cells x.cells 76)).alloc (.cells zeroW 76)) (w.heap.size + 1 + 1) 76 zeroW := by
    have := At.new1 (w.alloc (.cells (r.cells s) 45)) (.cells x.cells 76) 76 zeroW
    rwa [World.size_alloc] at this
  have B0 : Below w.heap.size w (((w.alloc (.cells (r.cells s) 45)).alloc (.cells x.cells 76)).alloc (.cells zeroW 76)) := (below_twice w _ _).alloc (by simp; omega) _
  clear h hz
  go_enter Tryz.func163, Tryz.ntmps163
  go_upto_region 1 with fail
  generalize (((w.alloc (.cells (r.cells s) 45)).alloc (.cells x.cells 76)).alloc (.cells zeroW 76)) = w0 at *
  obtain ⟨⟨b0, b1, b2, b3, b4, b5, b6, b7, b8, b9, b10, b11, b12, b13, b14, b15, b16⟩, bf, bl⟩ := at17 A0
  obtain ⟨⟨y0, y1, y2, y3, y4, y5, y6, y7, y8, y9⟩, yf, yl⟩ := at10 A1
  go_wp2_with (first
    | (go_at_call 78; refine (rcarried_any x.curr _ (H.out.book.below B0) HZ.out.2).mono ?_; rintro e w1 ⟨rfl, hb1⟩; have K0 := A0.below' hb1; have K1 := A1.below' hb1; have K2 := A2.below' hb1; obtain ⟨⟨-, -, -, -, -, -, -, e7, e8, e9, e10, e11, e12, e13, e14, e15, e16⟩, ef, el⟩ := at17 K0; obtain ⟨⟨u0, u1, u2, u3, u4, u5, u6, u7, u8, u9⟩, uf, ul⟩ := at10 K1)
    | (go_at_call 180; refine (rover_any v _).mono ?_; rintro e w2 ⟨rfl, rfl⟩; rw [HV.out]))
  have B1 : Below w.heap.size w w1 := B0.trans (hb1.mono B0.size)
  clear b0 b1 b2 b3 b4 b5 b6 b7 b8 b9 b10 b11 b12 b13 b14 b15 b16 bf bl y0 y1 y2 y3 y4 y5 y6 y7 y8 y9 yf yl A0 A1 A2
  go_region_held3 (fun w' => w'.cell? ⟨w.heap.size, 7, none⟩ = some (.int .i64 s.c.threads) ∧ w'.cell? ⟨w.heap.size, 8, none⟩ = some (.int .i64 s.c.buckets) ∧ w'.cell? ⟨w.heap.size, 9, none⟩ = some (.int .i64 s.c.inserts) ∧ w'.cell? ⟨w.heap.size, 10, none⟩ = some (.int .i64 s.c.fuel) ∧ w'.cell? ⟨w.heap.size, 11, none⟩ = some (.int .i64 s.c.calls) ∧ w'.cell? ⟨w.heap.size, 12, none⟩ = some (.slice r.cs.1 s.thr.length r.cs.2) ∧ w'.cell? ⟨w.heap.size, 13, none⟩ = some (.slice r.is.1 s.thr.length r.is.2) ∧ w'.cell? ⟨w.heap.size, 14, none⟩ = some (.slice r.ms.1 s.thr.length r.ms.2) ∧ w'.cell? ⟨w.heap.size, 15, none⟩ = some (.slice r.os.1 s.ops.length r.os.2) ∧ w'.cell? ⟨w.heap.size, 16, none⟩ = some (.slice r.ns.1 s.nodes.length r.ns.2) ∧ w'.cell? ⟨w.heap.size + 1, 4, none⟩ = some (.int .i64 x.curr) ∧ w'.cell? ⟨w.heap.size + 1, 0, none⟩ = some (.int .u64 x.key))
    (first | go_keep | exact ⟨d7, d8, d9, d10, d11, d12, d13, d14, d15, d16, t4, t0⟩)
    ((first | (go_at_call 148; refine (rkey_any x.curr _ (H.out.book.below B1.drew) HZ.out.1 HZ.out.2).mono ?_; rintro e w3 ⟨rfl, hb3⟩; have L0 := K0.drew.below' hb3; have L1 := K1.drew.below' hb3; have L2 := K2.drew.below' hb3; obtain ⟨⟨d0, d1, d2, d3, d4, d5, d6, d7, d8, d9, d10, d11, d12, d13, d14, d15, d16⟩, df, dl⟩ := at17 L0; obtain ⟨⟨t0, t1, t2, t3, t4, t5, t6, t7, t8, t9⟩, tf, tl⟩ := at10 L1; obtain ⟨⟨z0, z1, z2, z3, z4, z5, z6, z7, z8, z9⟩, zf, zl⟩ := at10 L2)))
  have B3 : Below w.heap.size w w3 := B1.drew.trans (hb3.mono B1.size)
  clear e7 e8 e9 e10 e11 e12 e13 e14 e15 e16 ef el u0 u1 u2 u3 u4 u5 u6 u7 u8 u9 uf ul K0 K1 K2
  go_wp2_with (go_at_call 191; refine (radvance_any (x) _ (H.out.below (B3)) HZ.out hn).mono ?_; rintro e w4 ⟨rfl, hb4⟩; have M2 := L2.below' hb4; clear z0 z1 z2 z3 z4 z5 z6 z7 z8 z9 zf zl; obtain ⟨⟨z0, z1, z2, z3, z4, z5, z6, z7, z8, z9⟩, zf, zl⟩ := at10 M2)
  have B4 : Below w.heap.size w w4 := below_then hb4 (by first | exact B3 | exact B3) (Nat.le_refl _)
  exact bodyPost_ret (v := Walk.val (s.advance x)) (res_cell (fn := Tryz.f163) Tryz.results163 _ _ (w.heap.size + 1 + 1) _ _ rfl (put10 M2 _ _ _ _ _ _ _ _ _ _).1 Tryz.underlying76 rfl (by kernel_rfl)) rfl ⟨rfl, below_set (below_set (below_set (below_set (below_set (below_set (below_set (below_set (below_set (below_set (B4) (by omega)) (by omega)) (by omega)) (by omega)) (by omega)) (by omega)) (by omega)) (by omega)) (by omega)) (by omega)⟩

end Go.Proofs.YtccmjljlfgbicaaGreat

