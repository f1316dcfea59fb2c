/- Contract of the document's answer: corrieref10.Step. Printed by stepgen.py. -/
import Derived.Test.YtccmjljlfgbicaaGreatZRLook
import Derived.Test.YtccmjljlfgbicaaGreatZRUnl
import Derived.Test.YtccmjljlfgbicaaGreatZG14
namespace Go.Proofs.YtccmjljlfgbicaaGreat
open Go.ChangeShapes Go.WideShapes Go.ChangeAt Go.RowKit

set_option maxRecDepth 100000 in
set_option maxHeartbeats 4000000 in
theorem rstep0_any {r : RV} {s : St} (x : Walk) (w : World) (h : RefIn w r s) (hok : s.ok) (hz : Sized s) (hb : s.c.buckets = 1) :
    Calls Tryz.prog 31 #[r.val s, Walk.val { x with phase := 0, done := false }] w (RefOut w r (fun v => .tuple #[v, Walk.val (s.walkStep { x with phase := 0, done := false }).2]) (s.walkStep { x with phase := 0, done := false }).1) := by
  have HC : ∀ w1, RefIn w1 r s → Calls Tryz.prog 90 #[r.val s, Walk.val { x with phase := 0, done := false }] w1 (RefOut w1 r (fun v => .tuple #[v, Walk.val (s.walkBegin { x with phase := 0, done := false }).2]) (s.walkBegin { x with phase := 0, done := false }).1) := fun w1 h1 => ref_out_same (s := s) rfl h1 (rlook0_any { x with done := false } w1 h1 hok hz hb)
  have hq : s.walkStep { x with phase := 0, done := false } = s.walkBegin { x with phase := 0, done := false } := by simp [St.walkStep]
  have hl : 2 ≤ (s.walkBegin { x with phase := 0, done := false }).1.words.length := by show 2 ≤ s.words.length; exact words_two hok
  rw [hq]
  generalize s.walkBegin { x with phase := 0, done := false } = q at *
  obtain ⟨s1, x1⟩ := q
  have HCC := Lib.hid HC
  have hl1 : 2 ≤ s1.words.length := hl
  clear HC hl hq hb
  have H := Lib.hid h
  have HOK := Lib.hid hok
  have HZ := Lib.hid hz
  have B0 := Box4.new 76 zeroW w (r.cells s) (Walk.cells { x with phase := 0, done := false })
  clear h hok hz
  go_enter Tryz.func31, Tryz.ntmps31
  go_upto_region 1 with fail
  generalize (((w.alloc (.cells (r.cells s) 45)).alloc (.cells (Walk.cells { x with phase := 0, done := false }) 76)).alloc (.cells zero17 45)).alloc (.cells zeroW 76) = w0 at *
  obtain ⟨⟨y0, y1, y2, y3, y4, y5, y6, y7, y8, y9⟩, -, yl⟩ := at10 B0.a1
  go_wp2_with (first
    | (refine wpl_st rfl 76 _ _ rfl (Walk.cells x1) rfl _ rfl A3b (by kernel_rfl) rfl rfl rfl ?_; intro w4 A4 O4; have TTT := True.intro)
    | (refine wpl_st rfl 45 _ _ rfl (RV.cells { r with w := p' } s1) rfl _ rfl B2.a2 (by kernel_rfl) rfl rfl rfl ?_; intro w3 A3 O3; have A3b := B2.a3.only O3 (by show ¬ _ = _; omega))
    | (go_at_call 90; refine (HCC.out w1 (H.out.below B1.below)).mono ?_; rintro e w2 ⟨p', rfl, hr2, hb2, hf2⟩; have B2 := B1.move hb2)
    | (refine wpl_ld rfl 76 _ rfl (Walk.cells { x with phase := 0, done := false }) rfl _ B1.a1 Tryz.underlying76 rfl (by kernel_rfl) rfl ?_)
    | (refine wpl_ld rfl 45 _ rfl (r.cells s) rfl _ B1.a0 Tryz.underlying45 rfl (by kernel_rfl) rfl ?_)
    | (go_at_call 78; refine (rcarried_any x.curr w0 (H.out.book.below B0.below) HZ.out.2).mono ?_; rintro e w1 ⟨rfl, hb1⟩; have B1 := B0.move hb1; obtain ⟨⟨z0, z1, z2, z3, z4, z5, z6, z7, z8, z9⟩, -, zl⟩ := at10 B1.a1)
    | (refine wpl_ld rfl 43 _ rfl (r.bcells s) rfl _ B0.a0 Tryz.underlying43 rfl (by kernel_rfl) rfl ?_))
  obtain ⟨C4, C5, OE⟩ := B2.fin A3 O3 A4 O4
  have hBE := B2.under OE
  exact bodyPost_ret (v := .tuple #[RV.val { r with w := p' } s1, Walk.val x1]) (res_cells (fn := Tryz.f31) Tryz.results31 _ _ (w.heap.size + 1 + 1) (w.heap.size + 1 + 1 + 1) _ _ _ _ rfl rfl C4 C5 Tryz.underlying45 rfl (by kernel_rfl) Tryz.underlying76 rfl (by kernel_rfl)) rfl ⟨p', rfl, hr2.only OE fun b o e _ k => k.elim (words_apart2 hr2 B2.a2 noTwo_zero17 hl1 b o e) (words_apart2 hr2 B2.a3 (noTwo_walk _) hl1 b o e), hBE, hf2.mono B1.below.size⟩

set_option maxRecDepth 100000 in
set_option maxHeartbeats 4000000 in
theorem rstep1_any {r : RV} {s : St} (x : Walk) (w : World) (h : RefIn w r s) (hok : s.ok) (hz : Sized s) :
    Calls Tryz.prog 31 #[r.val s, Walk.val { x with phase := 1, done := false }] w (RefOut w r (fun v => .tuple #[v, Walk.val (s.walkStep { x with phase := 1, done := false }).2]) (s.walkStep { x with phase := 1, done := false }).1) := by
  have HC : ∀ w1, RefIn w1 r s → Calls Tryz.prog 90 #[r.val s, Walk.val { x with phase := 1, done := false }] w1 (RefOut w1 r (fun v => .tuple #[v, Walk.val (s.walkPeek { x with phase := 1, done := false }).2]) (s.walkPeek { x with phase := 1, done := false }).1) := fun w1 h1 => ref_out_same (s := s) rfl h1 (rlook1_any { x with done := false } w1 h1 hok hz)
  have hq : s.walkStep { x with phase := 1, done := false } = s.walkPeek { x with phase := 1, done := false } := by simp [St.walkStep]
  have hl : 2 ≤ (s.walkPeek { x with phase := 1, done := false }).1.words.length := by show 2 ≤ s.words.length; exact words_two hok
  rw [hq]
  generalize s.walkPeek { x with phase := 1, done := false } = q at *
  obtain ⟨s1, x1⟩ := q
  have HCC := Lib.hid HC
  have hl1 : 2 ≤ s1.words.length := hl
  clear HC hl hq
  have H := Lib.hid h
  have HOK := Lib.hid hok
  have HZ := Lib.hid hz
  have B0 := Box4.new 76 zeroW w (r.cells s) (Walk.cells { x with phase := 1, done := false })
  clear h hok hz
  go_enter Tryz.func31, Tryz.ntmps31
  go_upto_region 1 with fail
  generalize (((w.alloc (.cells (r.cells s) 45)).alloc (.cells (Walk.cells { x with phase := 1, done := false }) 76)).alloc (.cells zero17 45)).alloc (.cells zeroW 76) = w0 at *
  obtain ⟨⟨y0, y1, y2, y3, y4, y5, y6, y7, y8, y9⟩, -, yl⟩ := at10 B0.a1
  go_wp2_with (first
    | (refine wpl_st rfl 76 _ _ rfl (Walk.cells x1) rfl _ rfl A3b (by kernel_rfl) rfl rfl rfl ?_; intro w4 A4 O4; have TTT := True.intro)
    | (refine wpl_st rfl 45 _ _ rfl (RV.cells { r with w := p' } s1) rfl _ rfl B2.a2 (by kernel_rfl) rfl rfl rfl ?_; intro w3 A3 O3; have A3b := B2.a3.only O3 (by show ¬ _ = _; omega))
    | (go_at_call 90; refine (HCC.out w1 (H.out.below B1.below)).mono ?_; rintro e w2 ⟨p', rfl, hr2, hb2, hf2⟩; have B2 := B1.move hb2)
    | (refine wpl_ld rfl 76 _ rfl (Walk.cells { x with phase := 1, done := false }) rfl _ B1.a1 Tryz.underlying76 rfl (by kernel_rfl) rfl ?_)
    | (refine wpl_ld rfl 45 _ rfl (r.cells s) rfl _ B1.a0 Tryz.underlying45 rfl (by kernel_rfl) rfl ?_)
    | (go_at_call 78; refine (rcarried_any x.curr w0 (H.out.book.below B0.below) HZ.out.2).mono ?_; rintro e w1 ⟨rfl, hb1⟩; have B1 := B0.move hb1; obtain ⟨⟨z0, z1, z2, z3, z4, z5, z6, z7, z8, z9⟩, -, zl⟩ := at10 B1.a1)
    | (refine wpl_ld rfl 43 _ rfl (r.bcells s) rfl _ B0.a0 Tryz.underlying43 rfl (by kernel_rfl) rfl ?_))
  obtain ⟨C4, C5, OE⟩ := B2.fin A3 O3 A4 O4
  have hBE := B2.under OE
  exact bodyPost_ret (v := .tuple #[RV.val { r with w := p' } s1, Walk.val x1]) (res_cells (fn := Tryz.f31) Tryz.results31 _ _ (w.heap.size + 1 + 1) (w.heap.size + 1 + 1 + 1) _ _ _ _ rfl rfl C4 C5 Tryz.underlying45 rfl (by kernel_rfl) Tryz.underlying76 rfl (by kernel_rfl)) rfl ⟨p', rfl, hr2.only OE fun b o e _ k => k.elim (words_apart2 hr2 B2.a2 noTwo_zero17 hl1 b o e) (words_apart2 hr2 B2.a3 (noTwo_walk _) hl1 b o e), hBE, hf2.mono B1.below.size⟩

set_option maxRecDepth 100000 in
set_option maxHeartbeats 4000000 in
theorem rstep2_any {r : RV} {s : St} (x : Walk) (w : World) (h : RefIn w r s) (hok : s.ok) (hz : Sized s) (hn : 0 ≤ x.next ∧ x.next ≤ 18446744073709551615) :
    Calls Tryz.prog 31 #[r.val s, Walk.val { x with phase := 2, done := false }] w (RefOut w r (fun v => .tuple #[v, Walk.val (s.walkStep { x with phase := 2, done := false }).2]) (s.walkStep { x with phase := 2, done := false }).1) := by
  have HC : ∀ w1, RefIn w1 r s → Calls Tryz.prog 91 #[r.val s, Walk.val { x with phase := 2, done := false }] w1 (RefOut w1 r (fun v => .tuple #[v, Walk.val (s.walkUnlink { x with phase := 2, done := false }).2]) (s.walkUnlink { x with phase := 2, done := false }).1) := fun w1 h1 => runlink_any { x with done := false } w1 h1 hok hz hn
  have hq : s.walkStep { x with phase := 2, done := false } = s.walkUnlink { x with phase := 2, done := false } := by simp [St.walkStep]
  have hl : 2 ≤ (s.walkUnlink { x with phase := 2, done := false }).1.words.length := by show 2 ≤ (s.swap _ _ _).words.length; rw [swap_len]; exact words_two hok
  rw [hq]
  generalize s.walkUnlink { x with phase := 2, done := false } = q at *
  obtain ⟨s1, x1⟩ := q
  have HCC := Lib.hid HC
  have hl1 : 2 ≤ s1.words.length := hl
  clear HC hl hq hn
  have H := Lib.hid h
  have HOK := Lib.hid hok
  have HZ := Lib.hid hz
  have B0 := Box4.new 76 zeroW w (r.cells s) (Walk.cells { x with phase := 2, done := false })
  clear h hok hz
  go_enter Tryz.func31, Tryz.ntmps31
  go_upto_region 1 with fail
  generalize (((w.alloc (.cells (r.cells s) 45)).alloc (.cells (Walk.cells { x with phase := 2, done := false }) 76)).alloc (.cells zero17 45)).alloc (.cells zeroW 76) = w0 at *
  obtain ⟨⟨y0, y1, y2, y3, y4, y5, y6, y7, y8, y9⟩, -, yl⟩ := at10 B0.a1
  go_wp2_with (first
    | (refine wpl_st rfl 76 _ _ rfl (Walk.cells x1) rfl _ rfl A3b (by kernel_rfl) rfl rfl rfl ?_; intro w4 A4 O4; have TTT := True.intro)
    | (refine wpl_st rfl 45 _ _ rfl (RV.cells { r with w := p' } s1) rfl _ rfl B2.a2 (by kernel_rfl) rfl rfl rfl ?_; intro w3 A3 O3; have A3b := B2.a3.only O3 (by show ¬ _ = _; omega))
    | (go_at_call 91; refine (HCC.out w1 (H.out.below B1.below)).mono ?_; rintro e w2 ⟨p', rfl, hr2, hb2, hf2⟩; have B2 := B1.move hb2)
    | (refine wpl_ld rfl 76 _ rfl (Walk.cells { x with phase := 2, done := false }) rfl _ B1.a1 Tryz.underlying76 rfl (by kernel_rfl) rfl ?_)
    | (refine wpl_ld rfl 45 _ rfl (r.cells s) rfl _ B1.a0 Tryz.underlying45 rfl (by kernel_rfl) rfl ?_)
    | (go_at_call 78; refine (rcarried_any x.curr w0 (H.out.book.below B0.below) HZ.out.2).mono ?_; rintro e w1 ⟨rfl, hb1⟩; have B1 := B0.move hb1; obtain ⟨⟨z0, z1, z2, z3, z4, z5, z6, z7, z8, z9⟩, -, zl⟩ := at10 B1.a1)
    | (refine wpl_ld rfl 43 _ rfl (r.bcells s) rfl _ B0.a0 Tryz.underlying43 rfl (by kernel_rfl) rfl ?_))
  obtain ⟨C4, C5, OE⟩ := B2.fin A3 O3 A4 O4
  have hBE := B2.under OE
  exact bodyPost_ret (v := .tuple #[RV.val { r with w := p' } s1, Walk.val x1]) (res_cells (fn := Tryz.f31) Tryz.results31 _ _ (w.heap.size + 1 + 1) (w.heap.size + 1 + 1 + 1) _ _ _ _ rfl rfl C4 C5 Tryz.underlying45 rfl (by kernel_rfl) Tryz.underlying76 rfl (by kernel_rfl)) rfl ⟨p', rfl, hr2.only OE fun b o e _ k => k.elim (words_apart2 hr2 B2.a2 noTwo_zero17 hl1 b o e) (words_apart2 hr2 B2.a3 (noTwo_walk _) hl1 b o e), hBE, hf2.mono B1.below.size⟩

set_option maxRecDepth 100000 in
set_option maxHeartbeats 4000000 in
theorem rstep3_any {r : RV} {s : St} (x : Walk) (w : World) (h : RefIn w r s) (hok : s.ok) (hz : Sized s) (hn : 0 ≤ x.next ∧ x.next ≤ 18446744073709551615) :
    Calls Tryz.prog 31 #[r.val s, Walk.val { x with phase := 3, done := false }] w (RefOut w r (fun v => .tuple #[v, Walk.val (s.walkStep { x with phase := 3, done := false }).2]) (s.walkStep { x with phase := 3, done := false }).1) := by
  have HC : ∀ w1, RefIn w1 r s → Calls Tryz.prog 90 #[r.val s, Walk.val { x with phase := 3, done := false }] w1 (RefOut w1 r (fun v => .tuple #[v, Walk.val (s.walkJudge { x with phase := 3, done := false }).2]) (s.walkJudge { x with phase := 3, done := false }).1) := fun w1 h1 => ref_out_same (s := s) rfl h1 (rlook3_any { x with done := false } w1 h1 hok hz hn)
  have hq : s.walkStep { x with phase := 3, done := false } = s.walkJudge { x with phase := 3, done := false } := by simp [St.walkStep]
  have hl : 2 ≤ (s.walkJudge { x with phase := 3, done := false }).1.words.length := by show 2 ≤ s.words.length; exact words_two hok
  rw [hq]
  generalize s.walkJudge { x with phase := 3, done := false } = q at *
  obtain ⟨s1, x1⟩ := q
  have HCC := Lib.hid HC
  have hl1 : 2 ≤ s1.words.length := hl
  clear HC hl hq hn
  have H := Lib.hid h
  have HOK := Lib.hid hok
  have HZ := Lib.hid hz
  have B0 := Box4.new 76 zeroW w (r.cells s) (Walk.cells { x with phase := 3, done := false })
  clear h hok hz
  go_enter Tryz.func31, Tryz.ntmps31
  go_upto_region 1 with fail
  generalize (((w.alloc (.cells (r.cells s) 45)).alloc (.cells (Walk.cells { x with phase := 3, done := false }) 76)).alloc (.cells zero17 45)).alloc (.cells zeroW 76) = w0 at *
  obtain ⟨⟨y0, y1, y2, y3, y4, y5, y6, y7, y8, y9⟩, -, yl⟩ := at10 B0.a1
  go_wp2_with (first
    | (refine wpl_st rfl 76 _ _ rfl (Walk.cells x1) rfl _ rfl A3b (by kernel_rfl) rfl rfl rfl ?_; intro w4 A4 O4; have TTT := True.intro)
    | (refine wpl_st rfl 45 _ _ rfl (RV.cells { r with w := p' } s1) rfl _ rfl B2.a2 (by kernel_rfl) rfl rfl rfl ?_; intro w3 A3 O3; have A3b := B2.a3.only O3 (by show ¬ _ = _; omega))
    | (go_at_call 90; refine (HCC.out w1 (H.out.below B1.below)).mono ?_; rintro e w2 ⟨p', rfl, hr2, hb2, hf2⟩; have B2 := B1.move hb2)
    | (refine wpl_ld rfl 76 _ rfl (Walk.cells { x with phase := 3, done := false }) rfl _ B1.a1 Tryz.underlying76 rfl (by kernel_rfl) rfl ?_)
    | (refine wpl_ld rfl 45 _ rfl (r.cells s) rfl _ B1.a0 Tryz.underlying45 rfl (by kernel_rfl) rfl ?_)
    | (go_at_call 78; refine (rcarried_any x.curr w0 (H.out.book.below B0.below) HZ.out.2).mono ?_; rintro e w1 ⟨rfl, hb1⟩; have B1 := B0.move hb1; obtain ⟨⟨z0, z1, z2, z3, z4, z5, z6, z7, z8, z9⟩, -, zl⟩ := at10 B1.a1)
    | (refine wpl_ld rfl 43 _ rfl (r.bcells s) rfl _ B0.a0 Tryz.underlying43 rfl (by kernel_rfl) rfl ?_))
  obtain ⟨C4, C5, OE⟩ := B2.fin A3 O3 A4 O4
  have hBE := B2.under OE
  exact bodyPost_ret (v := .tuple #[RV.val { r with w := p' } s1, Walk.val x1]) (res_cells (fn := Tryz.f31) Tryz.results31 _ _ (w.heap.size + 1 + 1) (w.heap.size + 1 + 1 + 1) _ _ _ _ rfl rfl C4 C5 Tryz.underlying45 rfl (by kernel_rfl) Tryz.underlying76 rfl (by kernel_rfl)) rfl ⟨p', rfl, hr2.only OE fun b o e _ k => k.elim (words_apart2 hr2 B2.a2 noTwo_zero17 hl1 b o e) (words_apart2 hr2 B2.a3 (noTwo_walk _) hl1 b o e), hBE, hf2.mono B1.below.size⟩

set_option maxRecDepth 100000 in
set_option maxHeartbeats 4000000 in
theorem rstepd_any {r : RV} {s : St} (x : Walk) (w : World) (h : RefIn w r s) (hok : s.ok) (hz : Sized s) :
    Calls Tryz.prog 31 #[r.val s, Walk.val { x with done := true }] w (RefOut w r (fun v => .tuple #[v, Walk.val (s.walkStep { x with done := true }).2]) (s.walkStep { x with done := true }).1) := by
  have hq : s.walkStep { x with done := true } = (s, { x with done := true }) := by simp [St.walkStep]
  have hl1 := words_two hok
  rw [hq]
  have H := Lib.hid h
  have HOK := Lib.hid hok
  have HZ := Lib.hid hz
  have B0 := Box4.new 76 zeroW w (r.cells s) (Walk.cells { x with done := true })
  clear h hok hz
  go_enter Tryz.func31, Tryz.ntmps31
  go_upto_region 1 with fail
  generalize (((w.alloc (.cells (r.cells s) 45)).alloc (.cells (Walk.cells { x with done := true }) 76)).alloc (.cells zero17 45)).alloc (.cells zeroW 76) = w0 at *
  obtain ⟨⟨y0, y1, y2, y3, y4, y5, y6, y7, y8, y9⟩, -, yl⟩ := at10 B0.a1
  go_wp2_with fail
  refine wp_out4 (gX := w.heap.size) (gW := w.heap.size + 1) (g4 := w.heap.size + 1 + 1) (g5 := w.heap.size + 1 + 1 + 1) (cs := r.cells s) (c0 := zero17) (cw := Walk.cells { x with done := true }) (c1 := zeroW) (by kernel_rfl) (by kernel_rfl) ⟨rfl, rfl, rfl, rfl⟩ rfl rfl rfl rfl (fun _ => rfl) (fun _ => rfl) (fun _ => rfl) (fun _ => rfl) (fun _ => rfl) (fun _ => rfl) (by decide) (by decide) B0.a0 B0.a1 B0.a2 B0.a3 (by omega) (by omega) (by omega) (by omega) (by omega) Tryz.underlying45 rfl (by kernel_rfl) rfl (rv_one _ _) Tryz.underlying76 rfl (by kernel_rfl) rfl (walk_one _) ?_
  intro us wE C4 C5 OE
  simp only [fillA, fillT, Nat.reduceAdd]
  go_wp2_with fail
  have hBE := B0.under OE
  have hr2 := H.out.words.below B0.below
  exact bodyPost_ret (v := .tuple #[r.val s, Walk.val { x with done := true }]) (res_cells (fn := Tryz.f31) Tryz.results31 _ _ (w.heap.size + 1 + 1) (w.heap.size + 1 + 1 + 1) _ _ _ _ rfl rfl C4 C5 Tryz.underlying45 rfl (by kernel_rfl) Tryz.underlying76 rfl (by kernel_rfl)) rfl ⟨r.w, rfl, hr2.only OE fun b o e _ k => k.elim (words_apart2 hr2 B0.a2 noTwo_zero17 hl1 b o e) (words_apart2 hr2 B0.a3 (noTwo_walk _) hl1 b o e), hBE, .inl rfl⟩

set_option maxRecDepth 100000 in
set_option maxHeartbeats 4000000 in
theorem rstepo_any {r : RV} {s : St} (x : Walk) (w : World) (h : RefIn w r s) (hok : s.ok) (hz : Sized s) (hp : x.phase < 0 ∨ 8 ≤ x.phase) :
    Calls Tryz.prog 31 #[r.val s, Walk.val { x with done := false }] w (RefOut w r (fun v => .tuple #[v, Walk.val (s.walkStep { x with done := false }).2]) (s.walkStep { x with done := false }).1) := by
  have hq : s.walkStep { x with done := false } = (s, { x with done := true }) := by simp only [St.walkStep, if_pos hp, Bool.false_eq_true, if_false]
  have hl1 := words_two hok
  rw [hq]
  have n0 : (x.phase == 0) = false := by rw [beq_eq_false_iff_ne]; omega
  have n1 : (x.phase == 1) = false := by rw [beq_eq_false_iff_ne]; omega
  have n2 : (x.phase == 2) = false := by rw [beq_eq_false_iff_ne]; omega
  have n3 : (x.phase == 3) = false := by rw [beq_eq_false_iff_ne]; omega
  have n4 : (x.phase == 4) = false := by rw [beq_eq_false_iff_ne]; omega
  have n5 : (x.phase == 5) = false := by rw [beq_eq_false_iff_ne]; omega
  have n6 : (x.phase == 6) = false := by rw [beq_eq_false_iff_ne]; omega
  have n7 : (x.phase == 7) = false := by rw [beq_eq_false_iff_ne]; omega
  clear hp hq
  have H := Lib.hid h
  have HOK := Lib.hid hok
  have HZ := Lib.hid hz
  have B0 := Box4.new 76 zeroW w (r.cells s) (Walk.cells { x with done := false })
  clear h hok hz
  go_enter Tryz.func31, Tryz.ntmps31
  go_upto_region 1 with fail
  generalize (((w.alloc (.cells (r.cells s) 45)).alloc (.cells (Walk.cells { x with done := false }) 76)).alloc (.cells zero17 45)).alloc (.cells zeroW 76) = w0 at *
  obtain ⟨⟨y0, y1, y2, y3, y4, y5, y6, y7, y8, y9⟩, -, yl⟩ := at10 B0.a1
  go_wp2_with (first
    | (refine wpl_st rfl 4 _ _ rfl (Walk.cells { x with done := true }) rfl _ rfl B1.a1 (by kernel_rfl) rfl rfl rfl ?_; intro w2 A2 O2; have B2 := B1.walk A2 O2)
    | (go_at_call 78; refine (rcarried_any x.curr w0 (H.out.book.below B0.below) HZ.out.2).mono ?_; rintro e w1 ⟨rfl, hb1⟩; have B1 := B0.move hb1; obtain ⟨⟨z0, z1, z2, z3, z4, z5, z6, z7, z8, z9⟩, -, zl⟩ := at10 B1.a1)
    | (refine wpl_ld rfl 43 _ rfl (r.bcells s) rfl _ B0.a0 Tryz.underlying43 rfl (by kernel_rfl) rfl ?_))
  refine wp_out4 (gX := w.heap.size) (gW := w.heap.size + 1) (g4 := w.heap.size + 1 + 1) (g5 := w.heap.size + 1 + 1 + 1) (cs := r.cells s) (c0 := zero17) (cw := Walk.cells { x with done := true }) (c1 := zeroW) (by kernel_rfl) (by kernel_rfl) ⟨rfl, rfl, rfl, rfl⟩ rfl rfl rfl rfl (fun _ => rfl) (fun _ => rfl) (fun _ => rfl) (fun _ => rfl) (fun _ => rfl) (fun _ => rfl) (by decide) (by decide) B2.a0 B2.a1 B2.a2 B2.a3 (by omega) (by omega) (by omega) (by omega) (by omega) Tryz.underlying45 rfl (by kernel_rfl) rfl (rv_one _ _) Tryz.underlying76 rfl (by kernel_rfl) rfl (walk_one _) ?_
  intro us wE C4 C5 OE
  simp only [fillA, fillT, Nat.reduceAdd]
  go_wp2_with fail
  have hBE := B2.under OE
  have hr2 := H.out.words.below B2.below
  exact bodyPost_ret (v := .tuple #[r.val s, Walk.val { x with done := true }]) (res_cells (fn := Tryz.f31) Tryz.results31 _ _ (w.heap.size + 1 + 1) (w.heap.size + 1 + 1 + 1) _ _ _ _ rfl rfl C4 C5 Tryz.underlying45 rfl (by kernel_rfl) Tryz.underlying76 rfl (by kernel_rfl)) rfl ⟨r.w, rfl, hr2.only OE fun b o e _ k => k.elim (words_apart2 hr2 B2.a2 noTwo_zero17 hl1 b o e) (words_apart2 hr2 B2.a3 (noTwo_walk _) hl1 b o e), hBE, .inl rfl⟩

set_option maxRecDepth 100000 in
set_option maxHeartbeats 4000000 in
theorem rstep4_any {r : RV} {s : St} (x : Walk) (w : World) (h : RefIn w r s) (hok : s.ok) (hz : Sized s) (hn : 0 ≤ x.next ∧ x.next ≤ 18446744073709551615) :
    Calls Tryz.prog 31 #[r.val s, Walk.val { x with phase := 4, done := false }] w (RefOut w r (fun v => .tuple #[v, Walk.val (s.walkStep { x with phase := 4, done := false }).2]) (s.walkStep { x with phase := 4, done := false }).1) := by
  have hq : s.walkStep { x with phase := 4, done := false } = (s.swap (s.nextAt x.curr) x.next (markOf x.next), { x with phase := 1, done := false }) := by simp [St.walkStep, St.walkMark]
  rw [hq]
  have hwl : 2 ≤ (s.swap (s.nextAt x.curr) x.next (markOf x.next)).words.length := by rw [swap_len]; exact words_two hok
  have hcc : ∀ w1, RefIn w1 r s → Calls Tryz.prog 92 #[r.val s, .int .i64 x.curr, .int .u64 x.next, .int .u64 (markOf x.next)] w1 (RefOut w1 r (fun v => .tuple #[v, .bool (s.swaps (s.nextAt x.curr) x.next)]) (s.swap (s.nextAt x.curr) x.next (markOf x.next))) := fun w1 h1 => rwlink_any x.curr x.next (markOf x.next) w1 h1 hok
  generalize s.swap (s.nextAt x.curr) x.next (markOf x.next) = s1 at *
  generalize s.swaps (s.nextAt x.curr) x.next = sw at *
  have HCC := Lib.hid hcc
  have HN := Lib.hid hn
  clear hcc hq hn
  have H := Lib.hid h
  have HOK := Lib.hid hok
  have HZ := Lib.hid hz
  have B0 := Box4.new 76 zeroW w (r.cells s) (Walk.cells { x with phase := 4, done := false })
  clear h hok hz
  go_enter Tryz.func31, Tryz.ntmps31
  go_upto_region 1 with fail
  generalize (((w.alloc (.cells (r.cells s) 45)).alloc (.cells (Walk.cells { x with phase := 4, done := false }) 76)).alloc (.cells zero17 45)).alloc (.cells zeroW 76) = w0 at *
  obtain ⟨⟨y0, y1, y2, y3, y4, y5, y6, y7, y8, y9⟩, -, yl⟩ := at10 B0.a1
  go_wp2_with (first
    | (go_at_call 78; refine (rcarried_any x.curr w0 (H.out.book.below B0.below) HZ.out.2).mono ?_; rintro e w1 ⟨rfl, hb1⟩; have B1 := B0.move hb1; obtain ⟨⟨z0, z1, z2, z3, z4, z5, z6, z7, z8, z9⟩, -, zl⟩ := at10 B1.a1)
    | (refine wpl_ld rfl 43 _ rfl (r.bcells s) rfl _ B0.a0 Tryz.underlying43 rfl (by kernel_rfl) rfl ?_))
  have l0 := B1.a3.lt
  refine wp_region_J (l := [_, _, _, _, _, _, _, _, _, _, _, _, _, _, _]) (CallG 8 2 45 zero17 (fun j v => match j with | 0 => v = .agg (r.cells s) | 1 => v = .pointer (some ⟨w.heap.size + 1, 4, none⟩) | 2 => v = .int .i64 x.curr | 3 => v = .pointer (some ⟨w.heap.size + 1, 5, none⟩) | 4 => v = .int .u64 x.next | 5 => v = .pointer (some ⟨w.heap.size + 1, 5, none⟩) | 6 => v = .int .u64 x.next | 7 => v = .int .u64 (markOf x.next) | _ => False) (fun ρ => [.agg (ρ.cells s1), .bool sw]) (fun ρ => ρ.cells s1) (fun ρ w' => ReadAt w' ρ.w.1 (wordsV s1.words) ∧ ρ = { r with w := ρ.w } ∧ Fr w1.heap.size r.w.1 ρ.w.1) w1) (by kernel_rfl) (by kernel_rfl) (fun us => CallG.start us) ⟨?_, ?_, ?_, ?_, ?_, ?_, ?_, ?_, ?_, ?_, ?_, ?_, ?_, ?_, ?_, trivial⟩ ?_
  · intro dn us w6 A hev hy hG hdn hdep K hK
    have e0 : A.eval (.tmp 2) = .pointer (some ⟨w.heap.size, 0, none⟩) := by rw [hev]; rfl
    refine step_list (wpl_ld rfl 45 (.tmp 2) rfl (r.cells s) e0 _ (B1.a0.only hG.only id) Tryz.underlying45 rfl (by kernel_rfl) rfl ⟨rfl, ?_⟩)
    exact hK _ _ (hG.first (by decide) rfl)
  · intro dn us w6 A hev hy hG hdn hdep K hK
    have e0 : A.eval (.tmp 3) = .pointer (some ⟨w.heap.size + 1, 0, none⟩) := by rw [hev]; rfl
    rw [if_pos (by rfl)]
    unfold Oper.wp execOp
    generalize A.eval = ev at e0 ⊢
    go_simp
    exact hK _ _ (hG.first (by decide) rfl)
  · intro dn us w6 A hev hy hG hdn hdep K hK
    have d1 : dn 1 = true := allD_mem hdep (by decide)
    have e0 : A.eval (.tmp 46) = .pointer (some ⟨w.heap.size + 1, 4, none⟩) := by rw [hev]; exact hG.pre 1 (by decide) d1
    have cc0 : w6.cell? ⟨w.heap.size + 1, 4, none⟩ = some (.int .i64 x.curr) := by rw [hG.only.cell zl id]; exact z4
    rw [if_pos (by rfl)]
    unfold Oper.wp execOp
    generalize A.eval = ev at e0 ⊢
    go_simp
    exact hK _ _ (hG.first (by decide) rfl)
  · intro dn us w6 A hev hy hG hdn hdep K hK
    have e0 : A.eval (.tmp 3) = .pointer (some ⟨w.heap.size + 1, 0, none⟩) := by rw [hev]; rfl
    rw [if_pos (by rfl)]
    unfold Oper.wp execOp
    generalize A.eval = ev at e0 ⊢
    go_simp
    exact hK _ _ (hG.first (by decide) rfl)
  · intro dn us w6 A hev hy hG hdn hdep K hK
    have d3 : dn 3 = true := allD_mem hdep (by decide)
    have e0 : A.eval (.tmp 48) = .pointer (some ⟨w.heap.size + 1, 5, none⟩) := by rw [hev]; exact hG.pre 3 (by decide) d3
    have cc0 : w6.cell? ⟨w.heap.size + 1, 5, none⟩ = some (.int .u64 x.next) := by rw [hG.only.cell zl id]; exact z5
    rw [if_pos (by rfl)]
    unfold Oper.wp execOp
    generalize A.eval = ev at e0 ⊢
    go_simp
    exact hK _ _ (hG.first (by decide) rfl)
  · intro dn us w6 A hev hy hG hdn hdep K hK
    have e0 : A.eval (.tmp 3) = .pointer (some ⟨w.heap.size + 1, 0, none⟩) := by rw [hev]; rfl
    rw [if_pos (by rfl)]
    unfold Oper.wp execOp
    generalize A.eval = ev at e0 ⊢
    go_simp
    exact hK _ _ (hG.first (by decide) rfl)
  · intro dn us w6 A hev hy hG hdn hdep K hK
    have d5 : dn 5 = true := allD_mem hdep (by decide)
    have e0 : A.eval (.tmp 50) = .pointer (some ⟨w.heap.size + 1, 5, none⟩) := by rw [hev]; exact hG.pre 5 (by decide) d5
    have cc0 : w6.cell? ⟨w.heap.size + 1, 5, none⟩ = some (.int .u64 x.next) := by rw [hG.only.cell zl id]; exact z5
    rw [if_pos (by rfl)]
    unfold Oper.wp execOp
    generalize A.eval = ev at e0 ⊢
    go_simp
    exact hK _ _ (hG.first (by decide) rfl)
  · intro dn us w6 A hev hy hG hdn hdep K hK
    have d6 : dn 6 = true := allD_mem hdep (by decide)
    have e0 : A.eval (.tmp 51) = .int .u64 x.next := by rw [hev]; exact hG.pre 6 (by decide) d6
    have ef : A.eval (.func 93) = .func (.func 93) #[] #[] := by rw [hev]; rfl
    rw [if_pos (by rfl)]
    unfold Oper.wp execOp
    generalize A.eval = ev at e0 ef ⊢
    go_simp
    refine (rmark_any x.next _ HN.out.1 HN.out.2).mono ?_
    rintro e wq ⟨rfl, rfl⟩
    exact hK _ _ (hG.first (by decide) rfl)
  · intro dn us w6 A hev hy hG hdn hdep K hK
    have d0 : dn 0 = true := allD_mem hdep (by decide)
    have d2 : dn 2 = true := allD_mem hdep (by decide)
    have d4 : dn 4 = true := allD_mem hdep (by decide)
    have d7 : dn 7 = true := allD_mem hdep (by decide)
    have e0 : A.eval (.tmp 45) = r.val s := by rw [hev]; exact hG.pre 0 (by decide) d0
    have e1 : A.eval (.tmp 47) = .int .i64 x.curr := by rw [hev]; exact hG.pre 2 (by decide) d2
    have e2 : A.eval (.tmp 49) = .int .u64 x.next := by rw [hev]; exact hG.pre 4 (by decide) d4
    have e3 : A.eval (.tmp 52) = .int .u64 (markOf x.next) := by rw [hev]; exact hG.pre 7 (by decide) d7
    have ef : A.eval (.func 92) = .func (.func 92) #[] #[] := by rw [hev]; rfl
    rw [if_pos (by rfl)]
    unfold Oper.wp execOp
    generalize A.eval = ev at e0 e1 e2 e3 ef ⊢
    go_simp
    refine (HCC.out w6 (H.out.below (B1.below.trans (hG.only.below (by have := B1.a3.lt; omega) fun _ _ => id)))).mono ?_
    rintro e wq ⟨p', rfl, hr, hb, hf⟩
    have hf0 := hf.mono hG.only.size
    exact hK _ _ (hG.called (ρ := { r with w := p' }) hdn hb ⟨hr, rfl, hf0⟩ fun g' _ _ hA w'' hO => ⟨hr.only hO fun b o e _ => words_apart2 hr hA noTwo_zero17 hwl b o e, rfl, hf0⟩)
  · intro dn us w6 A hev hy hG hdn hdep K hK
    have d8 : dn 8 = true := allD_mem hdep (by decide)
    have e0 : A.eval (.tmp 53) = us 8 := by rw [hev]; rfl
    refine step_list (wpl_move rfl _ (.inl rfl) ⟨rfl, ?_⟩)
    rw [e0]
    exact hK _ _ (hG.moved d8)
  · intro dn us w6 A hev hy hG hdn hdep K hK
    have d9 : dn 9 = true := allD_mem hdep (by decide)
    obtain ⟨dk, uk1⟩ := hG.mv d9
    obtain ⟨ρ, uk, hRR⟩ := hG.call dk
    clear hRR
    have e0 : A.eval (.tmp 44) = .tuple #[.agg (ρ.cells s1), .bool sw] := by rw [hev]; exact uk1.trans uk
    rw [if_pos (by rfl)]
    unfold Oper.wp execOp
    generalize A.eval = ev at e0 ⊢
    go_simp
    refine hK _ _ (hG.took (i := 0) (by decide) dk fun ρ' hρ' => ?_)
    rw [uk] at hρ'
    injection hρ' with hρ'
    rw [← List.toArray_inj hρ']
    rfl
  · intro dn us w6 A hev hy hG hdn hdep K hK
    have d9 : dn 9 = true := allD_mem hdep (by decide)
    obtain ⟨dk, uk1⟩ := hG.mv d9
    obtain ⟨ρ, uk, hRR⟩ := hG.call dk
    clear hRR
    have e0 : A.eval (.tmp 44) = .tuple #[.agg (ρ.cells s1), .bool sw] := by rw [hev]; exact uk1.trans uk
    rw [if_pos (by rfl)]
    unfold Oper.wp execOp
    generalize A.eval = ev at e0 ⊢
    go_simp
    refine hK _ _ (hG.took (i := 1) (by decide) dk fun ρ' hρ' => ?_)
    rw [uk] at hρ'
    injection hρ' with hρ'
    rw [← List.toArray_inj hρ']
    rfl
  · intro dn us w6 A hev hy hG hdn hdep K hK
    rw [if_pos (by rfl)]
    unfold Oper.wp execOp
    go_simp
    exact hK _ _ (hG.boxed hdn fun ρ hρ => ⟨⟨hρ.1.below ((Below.refl _ _).alloc (Nat.le_refl _) _), hρ.2⟩, fun w' hO => ⟨(hρ.1.below ((Below.refl _ _).alloc (Nat.le_refl _) _)).only hO fun b o e _ => words_apart2 (hρ.1.below ((Below.refl _ _).alloc (Nat.le_refl _) _)) (At.new w6 45 zero17) noTwo_zero17 hwl b o e, hρ.2⟩⟩)
  · intro dn us w6 A hev hy hG hdn hdep K hK
    have d10 : dn 10 = true := allD_mem hdep (by decide)
    have d12 : dn 12 = true := allD_mem hdep (by decide)
    obtain ⟨dk, ux⟩ := hG.ext 0 (by decide) d10
    obtain ⟨ρ, uk, hRR⟩ := hG.call dk
    clear hRR
    obtain ⟨gb, ub, _, _, ab, _⟩ := hG.box d12
    have vx : us 10 = .agg (ρ.cells s1) := by have := ux ρ uk; simpa using this
    have e0 : A.eval (.tmp 7) = .pointer (some ⟨gb, 0, none⟩) := by rw [hev]; exact ub
    have e1 : A.eval (.tmp 54) = .agg (ρ.cells s1) := by rw [hev]; exact vx
    refine step_list (wpl_st rfl 45 (.tmp 7) (.tmp 54) rfl (ρ.cells s1) e0 _ e1 (ab hdn) (by kernel_rfl) rfl rfl rfl fun w7 A7 O7 => ⟨rfl, ?_⟩)
    refine hK _ _ (hG.laid dk d12 ub O7 (fun ρ' hρ' => ?_) _)
    have hv := ux ρ' hρ'
    have hv' : Value.agg (ρ.cells s1) = .agg (ρ'.cells s1) := by rw [← vx]; simpa using hv
    injection hv' with hv'
    exact cells_at A7 hv'
  · intro dn us w6 A hev hy hG hdn hdep K hK
    have d11 : dn 11 = true := allD_mem hdep (by decide)
    obtain ⟨dk, u1⟩ := hG.ext 1 (by decide) d11
    have e0 : A.eval (.tmp 55) = us 11 := by rw [hev]; rfl
    refine step_list (wpl_move rfl _ (.inr rfl) ⟨rfl, ?_⟩)
    rw [e0]
    exact hK _ _ (hG.said (i := 1) (by decide) (by decide) dk u1)
  intro dn us w6 hG hall
  obtain ⟨ρ, u8, ⟨hWρ, hρe, hfρ⟩, _⟩ := hG.call (hall 8 (by decide))
  obtain ⟨gB, u12, gBa, gBb, _, aB⟩ := hG.box (hall 12 (by decide))
  have A12 : At w6 gB 45 (ρ.cells s1) := (aB (hall 13 (by decide))).2 ρ u8
  have u14 : us 14 = .bool sw := by have := (hG.asg 1 (by decide) (by decide) (hall 14 (by decide))).2 ρ u8; simpa using this
  have HFR := Lib.hid (hfρ.mono B1.below.size)
  clear hfρ
  have B2 : Box4 76 zeroW w (r.cells s) (Walk.cells { x with phase := 4, done := false }) w6 := ⟨B1.a0.only hG.only id, B1.a1.only hG.only id, B1.a2.only hG.only id, B1.a3.only hG.only id, B1.below.trans (hG.only.below (by omega) fun _ _ => id)⟩
  have HRE := Lib.hid hρe
  clear hρe
  simp only [fillA, fillT, Nat.reduceAdd, List.setIfInBounds_toArray, List.set_cons_zero, List.set_cons_succ, u12, u14]
  clear hG hall u8 u12 u14 aB
  go_wp2_with (refine wpl_st rfl 3 _ _ rfl (Walk.cells { x with phase := 1, done := false }) rfl _ rfl B2.a1 (by kernel_rfl) rfl rfl rfl ?_; intro w7 A7 O7
               have B3 := B2.walk A7 O7
               have A13 := A12.only O7 (by show ¬ _ = _; omega)
               have hW7 := hWρ.only O7 fun b o e _ => words_apart2 hWρ B2.a1 (noTwo_walk _) hwl b o e)
  refine wp_out4 (gX := gB) (gW := w.heap.size + 1) (g4 := w.heap.size + 1 + 1) (g5 := w.heap.size + 1 + 1 + 1) (cs := ρ.cells s1) (c0 := zero17) (cw := Walk.cells { x with phase := 1, done := false }) (c1 := zeroW) (by kernel_rfl) (by kernel_rfl) ⟨rfl, rfl, rfl, rfl⟩ rfl rfl rfl rfl (fun _ => rfl) (fun _ => rfl) (fun _ => rfl) (fun _ => rfl) (fun _ => rfl) (fun _ => rfl) (by decide) (by decide) A13 B3.a1 B3.a2 B3.a3 (by omega) (by omega) (by omega) (by omega) (by omega) Tryz.underlying45 rfl (by kernel_rfl) rfl (rv_one _ _) Tryz.underlying76 rfl (by kernel_rfl) rfl (walk_one _) ?_
  intro us wE C4 C5 OE
  simp only [fillA, fillT, Nat.reduceAdd]
  go_wp2_with fail
  have hBE := B3.under OE
  exact bodyPost_ret (v := .tuple #[ρ.val s1, Walk.val { x with phase := 1, done := false }]) (res_cells (fn := Tryz.f31) Tryz.results31 _ _ (w.heap.size + 1 + 1) (w.heap.size + 1 + 1 + 1) _ _ _ _ rfl rfl C4 C5 Tryz.underlying45 rfl (by kernel_rfl) Tryz.underlying76 rfl (by kernel_rfl)) rfl ⟨ρ.w, by rw [← HRE.out], hW7.only OE fun b o e _ k => k.elim (words_apart2 hW7 B3.a2 noTwo_zero17 hwl b o e) (words_apart2 hW7 B3.a3 (noTwo_walk _) hwl b o e), hBE, HFR.out⟩

set_option maxRecDepth 100000 in
set_option maxHeartbeats 4000000 in
theorem rstep5_any {r : RV} {s : St} (x : Walk) (w : World) (h : RefIn w r s) (hok : s.ok) (hz : Sized s) :
    Calls Tryz.prog 31 #[r.val s, Walk.val { x with phase := 5, done := false }] w (RefOut w r (fun v => .tuple #[v, Walk.val (s.walkStep { x with phase := 5, done := false }).2]) (s.walkStep { x with phase := 5, done := false }).1) := by
  have hwl : 2 ≤ s.words.length := words_two hok
  by_cases hm : s.peek (s.wordAt x.seen) = 1
  · have hq : s.walkStep { x with phase := 5, done := false } = ((s.load (s.wordAt x.seen)), { x with phase := 7, done := false }) := by simp [St.walkStep, St.walkAgain, hm]
    rw [hq]
    have HM := Lib.hid hm
    clear hm hq
    have H := Lib.hid h
    have HOK := Lib.hid hok
    have HZ := Lib.hid hz
    have B0 := Box4.new 76 zeroW w (r.cells s) (Walk.cells { x with phase := 5, done := false })
    clear h hok hz
    go_enter Tryz.func31, Tryz.ntmps31
    go_upto_region 1 with fail
    generalize (((w.alloc (.cells (r.cells s) 45)).alloc (.cells (Walk.cells { x with phase := 5, done := false }) 76)).alloc (.cells zero17 45)).alloc (.cells zeroW 76) = w0 at *
    obtain ⟨⟨y0, y1, y2, y3, y4, y5, y6, y7, y8, y9⟩, -, yl⟩ := at10 B0.a1
    go_wp2_with (first
      | (refine wpl_st rfl 3 _ _ rfl (Walk.cells { x with phase := 6, seen := -1, done := false }) rfl _ rfl B5.a1 (by kernel_rfl) rfl rfl rfl ?_; intro w6 A6 O6
         have B6 := B5.walk A6 O6
         have A6b := A5b.only O6 (by show ¬ _ = _; omega))
      | (refine wpl_st rfl 3 _ _ rfl (Walk.cells { x with phase := 7, seen := -1, done := false }) rfl _ rfl B4.a1 (by kernel_rfl) rfl rfl rfl ?_; intro w5 A5 O5
         have B5 := B4.walk A5 O5
         have A5b := A4b.only O5 (by show ¬ _ = _; omega))
      | (refine wpl_st rfl 3 _ _ rfl (Walk.cells { x with phase := 7, done := false }) rfl _ rfl B3.a1 (by kernel_rfl) rfl rfl rfl ?_; intro w4 A4 O4
         have B4 := B3.walk A4 O4
         have A4b := A3.only O4 (by show ¬ _ = _; omega))
      | (refine wpl_st rfl 45 _ _ rfl (r.cells (s.load (s.wordAt x.seen))) rfl _ rfl (At.new w2 _ _) (by kernel_rfl) rfl rfl rfl ?_; intro w3 A3 O3
         have B3 := B2.far O3
         have l2 := B2.a3.lt)
      | (go_at_call 77; refine (rwword_any x.seen w1 (H.out.below B1.below) HOK.out.may).mono ?_; rintro e w2 ⟨rfl, hb2⟩; have B2 := B1.move hb2; rw [HM.out])
      | (refine wpl_ld rfl 45 _ rfl (r.cells s) rfl _ B1.a0 Tryz.underlying45 rfl (by kernel_rfl) rfl ?_)
      | (go_at_call 78; refine (rcarried_any x.curr w0 (H.out.book.below B0.below) HZ.out.2).mono ?_; rintro e w1 ⟨rfl, hb1⟩; have B1 := B0.move hb1; obtain ⟨⟨z0, z1, z2, z3, z4, z5, z6, z7, z8, z9⟩, -, zl⟩ := at10 B1.a1)
      | (refine wpl_ld rfl 43 _ rfl (r.bcells s) rfl _ B0.a0 Tryz.underlying43 rfl (by kernel_rfl) rfl ?_))
    have hr2 := H.out.words.below B4.below
    refine wp_out4 (gX := w2.heap.size) (gW := w.heap.size + 1) (g4 := w.heap.size + 1 + 1) (g5 := w.heap.size + 1 + 1 + 1) (cs := r.cells (s.load (s.wordAt x.seen))) (c0 := zero17) (cw := Walk.cells { x with phase := 7, done := false }) (c1 := zeroW) (by kernel_rfl) (by kernel_rfl) ⟨rfl, rfl, rfl, rfl⟩ rfl rfl rfl rfl (fun _ => rfl) (fun _ => rfl) (fun _ => rfl) (fun _ => rfl) (fun _ => rfl) (fun _ => rfl) (by decide) (by decide) A4b B4.a1 B4.a2 B4.a3 (by omega) (by omega) (by omega) (by omega) (by omega) Tryz.underlying45 rfl (by kernel_rfl) rfl (rv_one _ _) Tryz.underlying76 rfl (by kernel_rfl) rfl (walk_one _) ?_
    intro us wE C4 C5 OE
    simp only [fillA, fillT, Nat.reduceAdd]
    go_wp2_with fail
    have hBE := B4.under OE
    exact bodyPost_ret (v := .tuple #[r.val (s.load (s.wordAt x.seen)), Walk.val { x with phase := 7, done := false }]) (res_cells (fn := Tryz.f31) Tryz.results31 _ _ (w.heap.size + 1 + 1) (w.heap.size + 1 + 1 + 1) _ _ _ _ rfl rfl C4 C5 Tryz.underlying45 rfl (by kernel_rfl) Tryz.underlying76 rfl (by kernel_rfl)) rfl ⟨r.w, rfl, hr2.only OE fun b o e _ k => k.elim (words_apart2 hr2 B4.a2 noTwo_zero17 hwl b o e) (words_apart2 hr2 B4.a3 (noTwo_walk _) hwl b o e), hBE, .inl rfl⟩
  · have hq : s.walkStep { x with phase := 5, done := false } = ((s.load (s.wordAt x.seen)), { x with phase := 6, seen := -1, done := false }) := by simp [St.walkStep, St.walkAgain, hm]
    rw [hq]
    have HM := Lib.hid hm
    clear hm hq
    have H := Lib.hid h
    have HOK := Lib.hid hok
    have HZ := Lib.hid hz
    have B0 := Box4.new 76 zeroW w (r.cells s) (Walk.cells { x with phase := 5, done := false })
    clear h hok hz
    go_enter Tryz.func31, Tryz.ntmps31
    go_upto_region 1 with fail
    generalize (((w.alloc (.cells (r.cells s) 45)).alloc (.cells (Walk.cells { x with phase := 5, done := false }) 76)).alloc (.cells zero17 45)).alloc (.cells zeroW 76) = w0 at *
    obtain ⟨⟨y0, y1, y2, y3, y4, y5, y6, y7, y8, y9⟩, -, yl⟩ := at10 B0.a1
    go_wp2_with (first
      | (refine wpl_st rfl 3 _ _ rfl (Walk.cells { x with phase := 6, seen := -1, done := false }) rfl _ rfl B5.a1 (by kernel_rfl) rfl rfl rfl ?_; intro w6 A6 O6
         have B6 := B5.walk A6 O6
         have A6b := A5b.only O6 (by show ¬ _ = _; omega))
      | (refine wpl_st rfl 3 _ _ rfl (Walk.cells { x with phase := 7, seen := -1, done := false }) rfl _ rfl B4.a1 (by kernel_rfl) rfl rfl rfl ?_; intro w5 A5 O5
         have B5 := B4.walk A5 O5
         have A5b := A4b.only O5 (by show ¬ _ = _; omega))
      | (refine wpl_st rfl 3 _ _ rfl (Walk.cells { x with phase := 7, done := false }) rfl _ rfl B3.a1 (by kernel_rfl) rfl rfl rfl ?_; intro w4 A4 O4
         have B4 := B3.walk A4 O4
         have A4b := A3.only O4 (by show ¬ _ = _; omega))
      | (refine wpl_st rfl 45 _ _ rfl (r.cells (s.load (s.wordAt x.seen))) rfl _ rfl (At.new w2 _ _) (by kernel_rfl) rfl rfl rfl ?_; intro w3 A3 O3
         have B3 := B2.far O3
         have l2 := B2.a3.lt)
      | (go_at_call 77; refine (rwword_any x.seen w1 (H.out.below B1.below) HOK.out.may).mono ?_; rintro e w2 ⟨rfl, hb2⟩; have B2 := B1.move hb2; have hpv := HM.out; generalize s.peek (s.wordAt x.seen) = pv at hpv ⊢)
      | (refine wpl_ld rfl 45 _ rfl (r.cells s) rfl _ B1.a0 Tryz.underlying45 rfl (by kernel_rfl) rfl ?_)
      | (go_at_call 78; refine (rcarried_any x.curr w0 (H.out.book.below B0.below) HZ.out.2).mono ?_; rintro e w1 ⟨rfl, hb1⟩; have B1 := B0.move hb1; obtain ⟨⟨z0, z1, z2, z3, z4, z5, z6, z7, z8, z9⟩, -, zl⟩ := at10 B1.a1)
      | (refine wpl_ld rfl 43 _ rfl (r.bcells s) rfl _ B0.a0 Tryz.underlying43 rfl (by kernel_rfl) rfl ?_))
    have hr2 := H.out.words.below B6.below
    refine wp_out4 (gX := w2.heap.size) (gW := w.heap.size + 1) (g4 := w.heap.size + 1 + 1) (g5 := w.heap.size + 1 + 1 + 1) (cs := r.cells (s.load (s.wordAt x.seen))) (c0 := zero17) (cw := Walk.cells { x with phase := 6, seen := -1, done := false }) (c1 := zeroW) (by kernel_rfl) (by kernel_rfl) ⟨rfl, rfl, rfl, rfl⟩ rfl rfl rfl rfl (fun _ => rfl) (fun _ => rfl) (fun _ => rfl) (fun _ => rfl) (fun _ => rfl) (fun _ => rfl) (by decide) (by decide) A6b B6.a1 B6.a2 B6.a3 (by omega) (by omega) (by omega) (by omega) (by omega) Tryz.underlying45 rfl (by kernel_rfl) rfl (rv_one _ _) Tryz.underlying76 rfl (by kernel_rfl) rfl (walk_one _) ?_
    intro us wE C4 C5 OE
    simp only [fillA, fillT, Nat.reduceAdd]
    go_wp2_with fail
    have hBE := B6.under OE
    exact bodyPost_ret (v := .tuple #[r.val (s.load (s.wordAt x.seen)), Walk.val { x with phase := 6, seen := -1, done := false }]) (res_cells (fn := Tryz.f31) Tryz.results31 _ _ (w.heap.size + 1 + 1) (w.heap.size + 1 + 1 + 1) _ _ _ _ rfl rfl C4 C5 Tryz.underlying45 rfl (by kernel_rfl) Tryz.underlying76 rfl (by kernel_rfl)) rfl ⟨r.w, rfl, hr2.only OE fun b o e _ k => k.elim (words_apart2 hr2 B6.a2 noTwo_zero17 hwl b o e) (words_apart2 hr2 B6.a3 (noTwo_walk _) hwl b o e), hBE, .inl rfl⟩

set_option maxRecDepth 100000 in
set_option maxHeartbeats 4000000 in
theorem rstep6_any {r : RV} {s : St} (x : Walk) (w : World) (h : RefIn w r s) (hok : s.ok) (hz : Sized s) :
    Calls Tryz.prog 31 #[r.val s, Walk.val { x with phase := 6, done := false }] w (RefOut w r (fun v => .tuple #[v, Walk.val (s.walkStep { x with phase := 6, done := false }).2]) (s.walkStep { x with phase := 6, done := false }).1) := by
  have hq : s.walkStep { x with phase := 6, done := false } = (s.swap (s.wordAt (s.carried x.curr)) 0 1, { x with phase := 3, done := false }) := by simp [St.walkStep, St.walkTurn, St.carried]
  rw [hq]
  have hwl : 2 ≤ (s.swap (s.wordAt (s.carried x.curr)) 0 1).words.length := by rw [swap_len]; exact words_two hok
  have hcc : ∀ w1, RefIn w1 r s → Calls Tryz.prog 64 #[r.val s, .int .i64 (s.carried x.curr), .int .u64 0, .int .u64 1] w1 (RefOut w1 r (fun v => .tuple #[v, .bool (s.swaps (s.wordAt (s.carried x.curr)) 0)]) (s.swap (s.wordAt (s.carried x.curr)) 0 1)) := fun w1 h1 => rwturn_any (s.carried x.curr) 0 1 w1 h1 hok
  generalize s.swap (s.wordAt (s.carried x.curr)) 0 1 = s1 at *
  generalize s.swaps (s.wordAt (s.carried x.curr)) 0 = sw at *
  have HCC := Lib.hid hcc
  clear hcc hq
  have H := Lib.hid h
  have HOK := Lib.hid hok
  have HZ := Lib.hid hz
  have B0 := Box4.new 76 zeroW w (r.cells s) (Walk.cells { x with phase := 6, done := false })
  clear h hok hz
  go_enter Tryz.func31, Tryz.ntmps31
  go_upto_region 1 with fail
  generalize (((w.alloc (.cells (r.cells s) 45)).alloc (.cells (Walk.cells { x with phase := 6, done := false }) 76)).alloc (.cells zero17 45)).alloc (.cells zeroW 76) = w0 at *
  obtain ⟨⟨y0, y1, y2, y3, y4, y5, y6, y7, y8, y9⟩, -, yl⟩ := at10 B0.a1
  go_wp2_with (first
    | (refine wpl_st rfl 3 _ _ rfl (Walk.cells { x with phase := 3, done := false }) rfl _ rfl B3.a1 (by kernel_rfl) rfl rfl rfl ?_; intro w4 A4 O4
       have B4 := B3.walk A4 O4
       have A3b := A3.only O4 (by show ¬ _ = _; omega))
    | (refine wpl_st rfl 45 _ _ rfl (RV.cells { r with w := p' } s1) rfl _ rfl (At.new w2 _ _) (by kernel_rfl) rfl rfl rfl ?_; intro w3 A3 O3
       have B3 := B2.far O3
       have l2 := B2.a3.lt)
    | (go_at_call 64; refine (HCC.out w1 (H.out.below B1.below)).mono ?_; rintro e w2 ⟨p', rfl, hr2, hb2, hf2⟩; have B2 := B1.move hb2)
    | (refine wpl_ld rfl 45 _ rfl (r.cells s) rfl _ B1.a0 Tryz.underlying45 rfl (by kernel_rfl) rfl ?_)
    | (go_at_call 78; refine (rcarried_any x.curr w0 (H.out.book.below B0.below) HZ.out.2).mono ?_; rintro e w1 ⟨rfl, hb1⟩; have B1 := B0.move hb1; obtain ⟨⟨z0, z1, z2, z3, z4, z5, z6, z7, z8, z9⟩, -, zl⟩ := at10 B1.a1)
    | (refine wpl_ld rfl 43 _ rfl (r.bcells s) rfl _ B0.a0 Tryz.underlying43 rfl (by kernel_rfl) rfl ?_))
  have hr2a := hr2.below ((Below.refl _ w2).alloc (Nat.le_refl _) (.cells zero17 45))
  have hr3 := hr2a.only O3 fun b o e _ => words_apart2 hr2a (At.new w2 45 zero17) noTwo_zero17 hwl b o e
  have hr4 := hr3.only O4 fun b o e _ => words_apart2 hr3 B3.a1 (noTwo_walk _) hwl b o e
  refine wp_out4 (gX := w2.heap.size) (gW := w.heap.size + 1) (g4 := w.heap.size + 1 + 1) (g5 := w.heap.size + 1 + 1 + 1) (cs := RV.cells { r with w := p' } s1) (c0 := zero17) (cw := Walk.cells { x with phase := 3, done := false }) (c1 := zeroW) (by kernel_rfl) (by kernel_rfl) ⟨rfl, rfl, rfl, rfl⟩ rfl rfl rfl rfl (fun _ => rfl) (fun _ => rfl) (fun _ => rfl) (fun _ => rfl) (fun _ => rfl) (fun _ => rfl) (by decide) (by decide) A3b B4.a1 B4.a2 B4.a3 (by omega) (by omega) (by omega) (by omega) (by omega) Tryz.underlying45 rfl (by kernel_rfl) rfl (rv_one _ _) Tryz.underlying76 rfl (by kernel_rfl) rfl (walk_one _) ?_
  intro us wE C4 C5 OE
  simp only [fillA, fillT, Nat.reduceAdd]
  go_wp2_with fail
  have hBE := B4.under OE
  exact bodyPost_ret (v := .tuple #[RV.val { r with w := p' } s1, Walk.val { x with phase := 3, done := false }]) (res_cells (fn := Tryz.f31) Tryz.results31 _ _ (w.heap.size + 1 + 1) (w.heap.size + 1 + 1 + 1) _ _ _ _ rfl rfl C4 C5 Tryz.underlying45 rfl (by kernel_rfl) Tryz.underlying76 rfl (by kernel_rfl)) rfl ⟨p', rfl, hr4.only OE fun b o e _ k => k.elim (words_apart2 hr4 B4.a2 noTwo_zero17 hwl b o e) (words_apart2 hr4 B4.a3 (noTwo_walk _) hwl b o e), hBE, hf2.mono B1.below.size⟩

set_option maxRecDepth 100000 in
set_option maxHeartbeats 4000000 in
theorem rstep7_any {r : RV} {s : St} (x : Walk) (w : World) (h : RefIn w r s) (hok : s.ok) (hz : Sized s) :
    Calls Tryz.prog 31 #[r.val s, Walk.val { x with phase := 7, done := false }] w (RefOut w r (fun v => .tuple #[v, Walk.val (s.walkStep { x with phase := 7, done := false }).2]) (s.walkStep { x with phase := 7, done := false }).1) := by
  have hq : s.walkStep { x with phase := 7, done := false } = (s.swap (s.wordAt (s.carried x.curr)) 0 2, { x with phase := 3, done := false }) := by simp [St.walkStep, St.walkTurn, St.carried]
  rw [hq]
  have hwl : 2 ≤ (s.swap (s.wordAt (s.carried x.curr)) 0 2).words.length := by rw [swap_len]; exact words_two hok
  have hcc : ∀ w1, RefIn w1 r s → Calls Tryz.prog 64 #[r.val s, .int .i64 (s.carried x.curr), .int .u64 0, .int .u64 2] w1 (RefOut w1 r (fun v => .tuple #[v, .bool (s.swaps (s.wordAt (s.carried x.curr)) 0)]) (s.swap (s.wordAt (s.carried x.curr)) 0 2)) := fun w1 h1 => rwturn_any (s.carried x.curr) 0 2 w1 h1 hok
  generalize s.swap (s.wordAt (s.carried x.curr)) 0 2 = s1 at *
  generalize s.swaps (s.wordAt (s.carried x.curr)) 0 = sw at *
  have HCC := Lib.hid hcc
  clear hcc hq
  have H := Lib.hid h
  have HOK := Lib.hid hok
  have HZ := Lib.hid hz
  have B0 := Box4.new 76 zeroW w (r.cells s) (Walk.cells { x with phase := 7, done := false })
  clear h hok hz
  go_enter Tryz.func31, Tryz.ntmps31
  go_upto_region 1 with fail
  generalize (((w.alloc (.cells (r.cells s) 45)).alloc (.cells (Walk.cells { x with phase := 7, done := false }) 76)).alloc (.cells zero17 45)).alloc (.cells zeroW 76) = w0 at *
  obtain ⟨⟨y0, y1, y2, y3, y4, y5, y6, y7, y8, y9⟩, -, yl⟩ := at10 B0.a1
  go_wp2_with (first
    | (refine wpl_st rfl 3 _ _ rfl (Walk.cells { x with phase := 3, done := false }) rfl _ rfl B3.a1 (by kernel_rfl) rfl rfl rfl ?_; intro w4 A4 O4
       have B4 := B3.walk A4 O4
       have A3b := A3.only O4 (by show ¬ _ = _; omega))
    | (refine wpl_st rfl 45 _ _ rfl (RV.cells { r with w := p' } s1) rfl _ rfl (At.new w2 _ _) (by kernel_rfl) rfl rfl rfl ?_; intro w3 A3 O3
       have B3 := B2.far O3
       have l2 := B2.a3.lt)
    | (go_at_call 64; refine (HCC.out w1 (H.out.below B1.below)).mono ?_; rintro e w2 ⟨p', rfl, hr2, hb2, hf2⟩; have B2 := B1.move hb2)
    | (refine wpl_ld rfl 45 _ rfl (r.cells s) rfl _ B1.a0 Tryz.underlying45 rfl (by kernel_rfl) rfl ?_)
    | (go_at_call 78; refine (rcarried_any x.curr w0 (H.out.book.below B0.below) HZ.out.2).mono ?_; rintro e w1 ⟨rfl, hb1⟩; have B1 := B0.move hb1; obtain ⟨⟨z0, z1, z2, z3, z4, z5, z6, z7, z8, z9⟩, -, zl⟩ := at10 B1.a1)
    | (refine wpl_ld rfl 43 _ rfl (r.bcells s) rfl _ B0.a0 Tryz.underlying43 rfl (by kernel_rfl) rfl ?_))
  have hr2a := hr2.below ((Below.refl _ w2).alloc (Nat.le_refl _) (.cells zero17 45))
  have hr3 := hr2a.only O3 fun b o e _ => words_apart2 hr2a (At.new w2 45 zero17) noTwo_zero17 hwl b o e
  have hr4 := hr3.only O4 fun b o e _ => words_apart2 hr3 B3.a1 (noTwo_walk _) hwl b o e
  refine wp_out4 (gX := w2.heap.size) (gW := w.heap.size + 1) (g4 := w.heap.size + 1 + 1) (g5 := w.heap.size + 1 + 1 + 1) (cs := RV.cells { r with w := p' } s1) (c0 := zero17) (cw := Walk.cells { x with phase := 3, done := false }) (c1 := zeroW) (by kernel_rfl) (by kernel_rfl) ⟨rfl, rfl, rfl, rfl⟩ rfl rfl rfl rfl (fun _ => rfl) (fun _ => rfl) (fun _ => rfl) (fun _ => rfl) (fun _ => rfl) (fun _ => rfl) (by decide) (by decide) A3b B4.a1 B4.a2 B4.a3 (by omega) (by omega) (by omega) (by omega) (by omega) Tryz.underlying45 rfl (by kernel_rfl) rfl (rv_one _ _) Tryz.underlying76 rfl (by kernel_rfl) rfl (walk_one _) ?_
  intro us wE C4 C5 OE
  simp only [fillA, fillT, Nat.reduceAdd]
  go_wp2_with fail
  have hBE := B4.under OE
  exact bodyPost_ret (v := .tuple #[RV.val { r with w := p' } s1, Walk.val { x with phase := 3, done := false }]) (res_cells (fn := Tryz.f31) Tryz.results31 _ _ (w.heap.size + 1 + 1) (w.heap.size + 1 + 1 + 1) _ _ _ _ rfl rfl C4 C5 Tryz.underlying45 rfl (by kernel_rfl) Tryz.underlying76 rfl (by kernel_rfl)) rfl ⟨p', rfl, hr4.only OE fun b o e _ k => k.elim (words_apart2 hr4 B4.a2 noTwo_zero17 hwl b o e) (words_apart2 hr4 B4.a3 (noTwo_walk _) hwl b o e), hBE, hf2.mono B1.below.size⟩

theorem rstep_any {r : RV} {s : St} (x : Walk) (w : World) (h : RefIn w r s) (hok : s.ok) (hz : Sized s) (hb : s.c.buckets = 1) (hn : 0 ≤ x.next ∧ x.next ≤ 18446744073709551615) :
    Calls Tryz.prog 31 #[r.val s, Walk.val x] w (RefOut w r (fun v => .tuple #[v, Walk.val (s.walkStep x).2]) (s.walkStep x).1) := by
  obtain ⟨key, mode, phase, pred, curr, next, seen, found, stop, done⟩ := x
  cases done with
  | true => exact rstepd_any ⟨key, mode, phase, pred, curr, next, seen, found, stop, true⟩ w h hok hz
  | false =>
    by_cases hp : phase < 0 ∨ 8 ≤ phase
    · exact rstepo_any ⟨key, mode, phase, pred, curr, next, seen, found, stop, false⟩ w h hok hz hp
    · have hp' : phase = 0 ∨ phase = 1 ∨ phase = 2 ∨ phase = 3 ∨ phase = 4 ∨ phase = 5 ∨ phase = 6 ∨ phase = 7 := by omega
      rcases hp' with rfl | rfl | rfl | rfl | rfl | rfl | rfl | rfl
      · exact rstep0_any ⟨key, mode, 0, pred, curr, next, seen, found, stop, false⟩ w h hok hz hb
      · exact rstep1_any ⟨key, mode, 1, pred, curr, next, seen, found, stop, false⟩ w h hok hz
      · exact rstep2_any ⟨key, mode, 2, pred, curr, next, seen, found, stop, false⟩ w h hok hz hn
      · exact rstep3_any ⟨key, mode, 3, pred, curr, next, seen, found, stop, false⟩ w h hok hz hn
      · exact rstep4_any ⟨key, mode, 4, pred, curr, next, seen, found, stop, false⟩ w h hok hz hn
      · exact rstep5_any ⟨key, mode, 5, pred, curr, next, seen, found, stop, false⟩ w h hok hz
      · exact rstep6_any ⟨key, mode, 6, pred, curr, next, seen, found, stop, false⟩ w h hok hz
      · exact rstep7_any ⟨key, mode, 7, pred, curr, next, seen, found, stop, false⟩ w h hok hz
end Go.Proofs.YtccmjljlfgbicaaGreat

