/- WalkEnds, the walk. -/
import Derived.Test.YtccmjljlfgbicaaEndsP
import Derived.Test.YtccmjljlfgbicaaAw10
namespace Go.Proofs.Ytccmjljlfgbicaa
open Go.ChangeShapes Go.WideShapes Go.ChangeAt Go.RowKit

set_option maxRecDepth 100000 in
set_option maxHeartbeats 1000000 in
theorem ends_walk {x : Scene} {v : Value} {ia ca : Option Addr} {ic cc : Nat} (key mode : Int) (w : World) (hx : x.fits) (hS : SceneAt w v x ia ca ic cc) :
    Calls Try.prog 5 #[v, .int .u64 key, .int .i64 mode] w fun e w' => e = .returned (.bool true) ∧ Below w.heap.size w w' := by
  have HS := Lib.hid hS
  obtain ⟨rfl, _, _⟩ := hS
  have HX := Lib.hid hx
  clear hx
  cases hfew : x.few with
  | false =>
    have HF := Lib.hid hfew
    clear hfew
    go_enter Try.func5, Try.ntmps5
    go_wp2_with (first
      | (go_at_call 16; refine (awake10_any _).mono ?_; rintro e w1 ⟨rfl, hb1⟩; obtain ⟨c0, c1, c2⟩ := scene_cells hb1)
      | (go_at_call 9; refine (few_any _).mono ?_; rintro e w2 ⟨rfl, hb2⟩; rw [HF.out]))
    go_ret
    exact ⟨rfl, ((Below.refl _ w).alloc (Nat.le_refl _) _).trans ((hb1.trans (hb2.mono hb1.size)).mono (by simp))⟩
  | true =>
    have HF := Lib.hid hfew
    have hlen : x.items.length ≤ 12 ∧ x.calls.length ≤ 6 := by
      unfold Scene.few at hfew
      simpa using hfew
    clear hfew
    obtain ⟨m, hm⟩ : ∃ m : Nat, m = 12 * x.items.length + 4 := ⟨_, rfl⟩
    have HM := Lib.hid hm
    have e1 : IntKind.i64.wrap (12 * (x.items.length : Int)) = 12 * (x.items.length : Int) := IntWalk.i64_in _ (by omega)
    have e2 : IntKind.i64.wrap (12 * (x.items.length : Int) + 4) = (m : Int) := by rw [IntWalk.i64_in _ (by omega)]; omega
    have hm9 : m ≤ 148 := by omega
    clear hm
    go_enter Try.func5, Try.ntmps5
    go_wp2_with (first
      | (go_at_call 16; refine (awake10_any _).mono ?_; rintro e w1 ⟨rfl, hb1⟩; obtain ⟨c0, c1, c2⟩ := scene_cells hb1)
      | (go_at_call 9; refine (few_any _).mono ?_; rintro e w2 ⟨rfl, hb2⟩; rw [HF.out]; obtain ⟨d0, d1, d2⟩ := scene_cells (hb1.trans (hb2.mono hb1.size)))
      | (go_at_call 17; refine (lay10_any _ HX.out hlen.1 hlen.2 ⟨rfl, HS.out.items.below (((Below.refl _ w).alloc (Nat.le_refl _) _).trans ((hb1.trans (hb2.mono hb1.size)).mono (by simp))), HS.out.calls.below (((Below.refl _ w).alloc (Nat.le_refl _) _).trans ((hb1.trans (hb2.mono hb1.size)).mono (by simp)))⟩).mono ?_; rintro e w3 ⟨k, rfl, hH, hK, hb3⟩; obtain ⟨f0, f1, f2⟩ := scene_cells ((hb1.trans (hb2.mono hb1.size)).trans (hb3.mono (by have := hb1.size; have := hb2.size; omega))))
      | (go_at_call 18; refine (walknew_any key mode _).mono ?_; rintro e w4 ⟨rfl, hb4⟩))
    have H4 := hH.below hb4
    have s1 := hb1.size
    have s2 := hb2.size
    have s3 := hb3.size
    have s4 := hb4.size
    simp at s1
    have hO4 : Out k w4.heap.size := H4.out (Nat.le_refl _)
    have hB4 : Below w.heap.size w w4 := ((Below.refl _ w).alloc (Nat.le_refl _) _).trans ((((hb1.trans (hb2.mono hb1.size)).trans (hb3.mono (by simp; omega))).trans (hb4.mono (by simp; omega))).mono (by simp))
    have hK' : ∀ i, i < w.heap.size → ¬ OwnX k w4.heap.size i := by
      intro i hi hn
      rcases hn with hn | hn
      · have := hK i (.inr (.inr hn)); omega
      · omega
    have nb : ¬ k.bw = w4.heap.size := fun e => hO4.2.1 e.symm
    clear hK hb1 hb2 hb3 hb4 hH c0 c1 c2 d0 d1 d2 f0 f1 f2 s1 s2 s3 s4
    go_loopg [11] m (fun gg v11 wr => ∃ i : Nat, v11 = .int .i64 i ∧ i + gg = m ∧ ∃ s y, EndsAt x key mode i s y ∧ Holds k s wr ∧ At wr w4.heap.size 54 y.cells ∧ Only (OwnX k w4.heap.size) w4 wr)
    case atStart =>
      exact ⟨0, rfl, by omega, x.lay, Walk.new key mode, ends_start x key mode, H4.alloc _, At.new w4 _ _, (Only.refl _ w4).alloc _⟩
    case round =>
      obtain ⟨i, rfl, hi, s, ⟨yk, ym, yp, yq, yc, yn, ys, yf, yt, yd⟩, hE, hH, hA, hO⟩ := hrel
      have HE := Lib.hid hE
      have hEn : 0 ≤ yn ∧ yn ≤ 18446744073709551615 := hE.next
      clear hE
      obtain ⟨_, g5, g6, gl⟩ := hH.wfacts
      by_cases hlt : i < m
      · obtain ⟨q1, q2, q3⟩ := ends_step HX.out hlen.1 hH.ok HE.out
        have Q3 := Lib.hid q3
        clear q3
        cases yd with
        | true =>
          have hst := Lib.hid (q1 rfl)
          obtain ⟨⟨x0, x1, x2, x3, x4, x5, x6, x7, x8, x9⟩, xf, xl⟩ := walk_facts hA
          simp only at x0 x1 x2 x3 x4 x5 x6 x7 x8 x9
          clear q1 q2
          go_upto_region 15 with (first
            | (go_at_call 19; refine (steps_any _ hH.cells).mono ?_; rintro e w5 ⟨rfl, rfl⟩)
            | (go_at_call 20; refine (wstep_any ⟨yk, ym, yp, yq, yc, yn, ys, yf, yt, true⟩ _ hH hEn).mono ?_; rintro e w6 ⟨rfl, hH6, hO6⟩; have hA6 := hA.only hO6 hO4.1; obtain ⟨⟨z0, z1, z2, z3, z4, z5, z6, z7, z8, z9⟩, zf, zl⟩ := walk_facts hA6))
          clear z0 z1 z2 z3 z4 z5 z6 z7 z8 z9 zf zl
          generalize hz1 : (s.walkStep ⟨yk, ym, yp, yq, yc, yn, ys, yf, yt, true⟩).1 = s' at *
          generalize hz2 : (s.walkStep ⟨yk, ym, yp, yq, yc, yn, ys, yf, yt, true⟩).2 = z at *
          obtain ⟨p1, p2, p3⟩ := put_walk hH6 hO4 hA6 z
          unfold putWalk at p1 p2 p3
          generalize (((((((((w6.setCell ⟨w4.heap.size, 0, none⟩ (.int .u64 z.key)).setCell ⟨w4.heap.size, 1, none⟩ (.int .i64 z.mode)).setCell ⟨w4.heap.size, 2, none⟩ (.int .i64 z.phase)).setCell ⟨w4.heap.size, 3, none⟩ (.int .i64 z.pred)).setCell ⟨w4.heap.size, 4, none⟩ (.int .i64 z.curr)).setCell ⟨w4.heap.size, 5, none⟩ (.int .u64 z.next)).setCell ⟨w4.heap.size, 6, none⟩ (.int .i64 z.seen)).setCell ⟨w4.heap.size, 7, none⟩ (.int .i64 z.found)).setCell ⟨w4.heap.size, 8, none⟩ (.bool z.stop)).setCell ⟨w4.heap.size, 9, none⟩ (.bool z.done) = w7 at *
          have HZ1 := Lib.hid hz1
          have HZ2 := Lib.hid hz2
          obtain ⟨_, h5, h6, hl⟩ := p1.wfacts
          clear hz1 hz2 x0 x1 x2 x3 x4 x5 x6 x7 x8 x9 xf xl g5 g6 gl
          go_wp2_with (go_at_call 19; refine (steps_any _ p1.cells).mono ?_; rintro e w8 ⟨rfl, rfl⟩; rw [hst.out])
          go_roundg (m - (i + 1))
          case measure => omega
          case rel => exact ⟨i + 1, rfl, by omega, s', z, Q3.out, p1, p2, (hO.trans (onlyX hO6)).trans p3⟩
        | false =>
          have hst := Lib.hid (q2 rfl)
          obtain ⟨⟨x0, x1, x2, x3, x4, x5, x6, x7, x8, x9⟩, xf, xl⟩ := walk_facts hA
          simp only at x0 x1 x2 x3 x4 x5 x6 x7 x8 x9
          clear q1 q2
          go_upto_region 15 with (first
            | (go_at_call 19; refine (steps_any _ hH.cells).mono ?_; rintro e w5 ⟨rfl, rfl⟩)
            | (go_at_call 20; refine (wstep_any ⟨yk, ym, yp, yq, yc, yn, ys, yf, yt, false⟩ _ hH hEn).mono ?_; rintro e w6 ⟨rfl, hH6, hO6⟩; have hA6 := hA.only hO6 hO4.1; obtain ⟨⟨z0, z1, z2, z3, z4, z5, z6, z7, z8, z9⟩, zf, zl⟩ := walk_facts hA6))
          clear z0 z1 z2 z3 z4 z5 z6 z7 z8 z9 zf zl
          generalize hz1 : (s.walkStep ⟨yk, ym, yp, yq, yc, yn, ys, yf, yt, false⟩).1 = s' at *
          generalize hz2 : (s.walkStep ⟨yk, ym, yp, yq, yc, yn, ys, yf, yt, false⟩).2 = z at *
          obtain ⟨p1, p2, p3⟩ := put_walk hH6 hO4 hA6 z
          unfold putWalk at p1 p2 p3
          generalize (((((((((w6.setCell ⟨w4.heap.size, 0, none⟩ (.int .u64 z.key)).setCell ⟨w4.heap.size, 1, none⟩ (.int .i64 z.mode)).setCell ⟨w4.heap.size, 2, none⟩ (.int .i64 z.phase)).setCell ⟨w4.heap.size, 3, none⟩ (.int .i64 z.pred)).setCell ⟨w4.heap.size, 4, none⟩ (.int .i64 z.curr)).setCell ⟨w4.heap.size, 5, none⟩ (.int .u64 z.next)).setCell ⟨w4.heap.size, 6, none⟩ (.int .i64 z.seen)).setCell ⟨w4.heap.size, 7, none⟩ (.int .i64 z.found)).setCell ⟨w4.heap.size, 8, none⟩ (.bool z.stop)).setCell ⟨w4.heap.size, 9, none⟩ (.bool z.done) = w7 at *
          have HZ1 := Lib.hid hz1
          have HZ2 := Lib.hid hz2
          obtain ⟨_, h5, h6, hl⟩ := p1.wfacts
          clear hz1 hz2 x0 x1 x2 x3 x4 x5 x6 x7 x8 x9 xf xl g5 g6 gl
          go_wp2_with (go_at_call 19; refine (steps_any _ p1.cells).mono ?_; rintro e w8 ⟨rfl, rfl⟩; rw [hst.out])
          go_roundg (m - (i + 1))
          case measure => omega
          case rel => exact ⟨i + 1, rfl, by omega, s', z, Q3.out, p1, p2, (hO.trans (onlyX hO6)).trans p3⟩
      · have e : i = m := by omega
        obtain rfl : yd = true := ends_end HE.out (e.trans HM.out)
        obtain ⟨⟨x0, x1, x2, x3, x4, x5, x6, x7, x8, x9⟩, xf, xl⟩ := walk_facts hA
        simp only at x0 x1 x2 x3 x4 x5 x6 x7 x8 x9
        clear e
        go_wp2
        go_ret
        exact ⟨rfl, hB4.trans (hO.below (by have := hB4.size; omega) hK')⟩

end Go.Proofs.Ytccmjljlfgbicaa
