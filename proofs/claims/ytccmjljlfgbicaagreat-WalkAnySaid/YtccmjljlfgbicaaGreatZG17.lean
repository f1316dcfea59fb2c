/- Contract of corrieref10.advance. -/
import Derived.Test.YtccmjljlfgbicaaGreatZG15
import Derived.Test.YtccmjljlfgbicaaGreatZWalkE
namespace Go.Proofs.YtccmjljlfgbicaaGreat
open Go.ChangeShapes Go.WideShapes Go.ChangeAt Go.RowKit

theorem arrive_curr (s : St) (x : Walk) (n m : Int) : s.arrive { x with curr := m } n = s.arrive x n := by
  unfold St.arrive; rfl

set_option maxRecDepth 100000 in
set_option maxHeartbeats 2000000 in
theorem radvance_any {r : RV} {s : St} (x : Walk) (w : World) (h : RefIn w r s) (hz : Sized s) (hn : 0 ≤ x.next ∧ x.next ≤ 18446744073709551615) :
    Calls Tryz.prog 191 #[r.val s, x.val] w fun e w' => e = .returned (s.advance x).val ∧ Below w.heap.size w w' := by
  have H := Lib.hid h
  have HZ := Lib.hid hz
  have HA := Lib.hid (show s.advance x = s.arrive { x with pred := x.curr, curr := x.next / 2 } (x.next / 2) from (arrive_curr s { x with pred := x.curr } _ _).symm)
  have A0 := ((At.new w 45 (r.cells s)).alloc (.cells x.cells 76)).alloc (.cells zeroW 76)
  have A1 := (At.new1 w (.cells (r.cells s) 45) 76 x.cells).alloc (.cells zeroW 76)
  have A2 : At (((w.alloc (.cells (r.cells s) 45)).alloc (.cells x.cells 76)).alloc (.cells zeroW 76)) (w.heap.size + 1 + 1) 76 zeroW := by
    have := At.new1 (w.alloc (.cells (r.cells s) 45)) (.cells x.cells 76) 76 zeroW
    rwa [World.size_alloc] at this
  have B0 : Below w.heap.size w (((w.alloc (.cells (r.cells s) 45)).alloc (.cells x.cells 76)).alloc (.cells zeroW 76)) := (below_twice w _ _).alloc (by simp; omega) _
  clear h hz
  go_enter Tryz.func191, Tryz.ntmps191
  go_upto_region 1 with fail
  generalize (((w.alloc (.cells (r.cells s) 45)).alloc (.cells x.cells 76)).alloc (.cells zeroW 76)) = w0 at *
  obtain ⟨⟨b0, b1, b2, b3, b4, b5, b6, b7, b8, b9, b10, b11, b12, b13, b14, b15, b16⟩, bf, bl⟩ := at17 A0
  obtain ⟨⟨y0, y1, y2, y3, y4, y5, y6, y7, y8, y9⟩, yf, yl⟩ := at10 A1
  clear A0
  go_wp2_with (first
    | (go_at_call 75; refine (rindex_any _ _ hn.1 hn.2).mono ?_; rintro e w1 ⟨rfl, rfl⟩)
    | (go_at_call 162; refine (rarrive_any { x with pred := x.curr, curr := x.next / 2 } _ (H.out.below (below_set (below_set B0 (by omega)) (by omega))) HZ.out).mono ?_; rintro e w2 ⟨rfl, hb2⟩; have K2 := ((A2.far (p := ⟨w.heap.size + 1, 3, none⟩) (by simp) (.int .i64 x.curr)).far (p := ⟨w.heap.size + 1, 4, none⟩) (by simp) (.int .i64 (x.next / 2))).below' hb2; obtain ⟨⟨z0, z1, z2, z3, z4, z5, z6, z7, z8, z9⟩, zf, zl⟩ := at10 K2))
  have BB : Below w.heap.size w ((w0.setCell ⟨w.heap.size + 1, 3, none⟩ (.int .i64 x.curr)).setCell ⟨w.heap.size + 1, 4, none⟩ (.int .i64 (x.next / 2))) := below_set (below_set B0 (by omega)) (by omega)
  have B3 : Below w.heap.size w w2 := BB.trans (hb2.mono BB.size)
  exact bodyPost_ret (v := (s.arrive { x with pred := x.curr, curr := x.next / 2 } (x.next / 2)).val) (res_cell (fn := Tryz.f191) Tryz.results191 _ _ (w.heap.size + 1 + 1) _ _ rfl (put10 K2 _ _ _ _ _ _ _ _ _ _).1 Tryz.underlying76 rfl (by kernel_rfl)) rfl ⟨by rw [HA.out], below_set (below_set (below_set (below_set (below_set (below_set (below_set (below_set (below_set (below_set (B3) (by omega)) (by omega)) (by omega)) (by omega)) (by omega)) (by omega)) (by omega)) (by omega)) (by omega)) (by omega)⟩

end Go.Proofs.YtccmjljlfgbicaaGreat

/- NOT WHOLE YET: contract of corrieref10.judge. -/
namespace Go.Proofs.YtccmjljlfgbicaaGreat
open Go.ChangeShapes Go.WideShapes Go.ChangeAt Go.RowKit

set_option maxRecDepth 100000 in
set_option maxHeartbeats 2000000 in
theorem rjudge_over {r : RV} {s : St} (x : Walk) (v : Int) (w : World) (h : RefIn w r s) (hz : Sized s) (hv : 1 < v) :
    Calls Tryz.prog 163 #[r.val s, x.val, .int .u64 v] w fun e w' => e = .returned (Walk.val { x with phase := 4 }) ∧ Below w.heap.size w w' := by
  have H := Lib.hid h
  have HZ := Lib.hid hz
  have A0 := ((At.new w 45 (r.cells s)).alloc (.cells x.cells 76)).alloc (.cells zeroW 76)
  have A1 := (At.new1 w (.cells (r.cells s) 45) 76 x.cells).alloc (.cells zeroW 76)
  have A2 : At (((w.alloc (.cells (r.cells s) 45)).alloc (.cells x.cells 76)).alloc (.cells zeroW 76)) (w.heap.size + 1 + 1) 76 zeroW := by
    have := At.new1 (w.alloc (.cells (r.cells s) 45)) (.cells x.cells 76) 76 zeroW
    rwa [World.size_alloc] at this
  have B0 : Below w.heap.size w (((w.alloc (.cells (r.cells s) 45)).alloc (.cells x.cells 76)).alloc (.cells zeroW 76)) := (below_twice w _ _).alloc (by simp; omega) _
  clear h hz
  go_enter Tryz.func163, Tryz.ntmps163
  go_upto_region 1 with fail
  generalize (((w.alloc (.cells (r.cells s) 45)).alloc (.cells x.cells 76)).alloc (.cells zeroW 76)) = w0 at *
  obtain ⟨⟨b0, b1, b2, b3, b4, b5, b6, b7, b8, b9, b10, b11, b12, b13, b14, b15, b16⟩, bf, bl⟩ := at17 A0
  obtain ⟨⟨y0, y1, y2, y3, y4, y5, y6, y7, y8, y9⟩, yf, yl⟩ := at10 A1
  go_wp2_with (first
    | (go_at_call 78; refine (rcarried_any x.curr _ (H.out.book.below B0) HZ.out.2).mono ?_; rintro e w1 ⟨rfl, hb1⟩; have K1 := A1.below' hb1; have K2 := A2.below' hb1; obtain ⟨⟨u0, u1, u2, u3, u4, u5, u6, u7, u8, u9⟩, uf, ul⟩ := at10 K1; obtain ⟨⟨z0, z1, z2, z3, z4, z5, z6, z7, z8, z9⟩, zf, zl⟩ := at10 K2)
    | (go_at_call 180; refine (rover_any v _).mono ?_; rintro e w2 ⟨rfl, rfl⟩))
  have B3 : Below w.heap.size w w1 := B0.trans (hb1.mono B0.size)
  exact bodyPost_ret (v := Walk.val { x with phase := 4 }) (res_cell (fn := Tryz.f163) Tryz.results163 _ _ (w.heap.size + 1 + 1) _ _ rfl (put10 (K2.far (p := ⟨w.heap.size + 1, 2, none⟩) (by simp) (.int .i64 4)) _ _ _ _ _ _ _ _ _ _).1 Tryz.underlying76 rfl (by kernel_rfl)) rfl ⟨rfl, below_set (below_set (below_set (below_set (below_set (below_set (below_set (below_set (below_set (below_set (below_set (B3) (by omega)) (by omega)) (by omega)) (by omega)) (by omega)) (by omega)) (by omega)) (by omega)) (by omega)) (by omega)) (by omega)⟩

end Go.Proofs.YtccmjljlfgbicaaGreat

