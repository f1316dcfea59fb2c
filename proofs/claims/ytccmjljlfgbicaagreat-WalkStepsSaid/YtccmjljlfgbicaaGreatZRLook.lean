/- Contracts of the document's answer: corrieref10.look: phases 0, 1 and 3. Printed by stepgen.py. -/
import Derived.Test.YtccmjljlfgbicaaGreatZG15
import Derived.Test.YtccmjljlfgbicaaGreatZG19
import Derived.Test.YtccmjljlfgbicaaGreatZG2
import Derived.Test.YtccmjljlfgbicaaGreatZWalkE
namespace Go.Proofs.YtccmjljlfgbicaaGreat
open Go.ChangeShapes Go.WideShapes Go.ChangeAt Go.RowKit

set_option maxRecDepth 100000 in
set_option maxHeartbeats 4000000 in
theorem rlook0_any {r : RV} {s : St} (x : Walk) (w : World) (h : RefIn w r s) (hok : s.ok) (hz : Sized s) (hb : s.c.buckets = 1) :
    Calls Tryz.prog 90 #[r.val s, Walk.val { x with phase := 0 }] w fun e w' => e = .returned (.tuple #[r.val (s.walkBegin { x with phase := 0 }).1, Walk.val (s.walkBegin { x with phase := 0 }).2]) ∧ Below w.heap.size w w' := by
  have HB := Lib.hid hb
  have HP := Lib.hid (peek_range hok (s.nextAt (s.head x.key)))
  have HQ := Lib.hid (show s.walkBegin { x with phase := 0 } = ((s.load (s.nextAt (s.head x.key))), ((s.load (s.nextAt (s.head x.key)))).arrive { x with phase := 0, pred := s.head x.key, curr := (s.peek (s.nextAt (s.head x.key)) / 2), seen := -1 } (s.peek (s.nextAt (s.head x.key)) / 2)) from rfl)
  clear hb
  have H := Lib.hid h
  have HOK := Lib.hid hok
  have HZ := Lib.hid hz
  have B0 := Box4.new 76 zeroW w (r.cells s) (Walk.cells { x with phase := 0 })
  clear h hok hz
  go_enter Tryz.func90, Tryz.ntmps90
  go_upto_region 1 with fail
  generalize (((w.alloc (.cells (r.cells s) 45)).alloc (.cells (Walk.cells { x with phase := 0 }) 76)).alloc (.cells zero17 45)).alloc (.cells zeroW 76) = w0 at *
  obtain ⟨⟨y0, y1, y2, y3, y4, y5, y6, y7, y8, y9⟩, -, yl⟩ := at10 B0.a1
  go_wp2_with (first
    | (refine wpl_st rfl 3 _ _ rfl (Walk.cells { x with phase := 0, pred := s.head x.key, curr := (s.peek (s.nextAt (s.head x.key)) / 2), seen := -1 }) rfl _ rfl B5.a1 (by kernel_rfl) rfl rfl rfl ?_; intro w6 A6 O6
       have B6 := B5.walk A6 O6)
    | (refine wpl_st rfl 3 _ _ rfl (Walk.cells { x with phase := 0, pred := s.head x.key, curr := (s.peek (s.nextAt (s.head x.key)) / 2) }) rfl _ rfl B4.a1 (by kernel_rfl) rfl rfl rfl ?_; intro w5 A5 O5
       have B5 := B4.walk A5 O5
       have A6' := A4.only O5 (by show ¬ _ = _; omega))
    | (go_at_call 75; refine (rindex_any _ _ HP.out.1 HP.out.2).mono ?_; rintro e wi ⟨rfl, rfl⟩)
    | (refine wpl_st rfl 45 _ _ rfl (r.cells (s.load (s.nextAt (s.head x.key)))) rfl _ rfl (At.new w3 _ _) (by kernel_rfl) rfl rfl rfl ?_; intro w4 A4 O4
       have B4 := B3.far O4
       have l3 := B3.a3.lt)
    | (go_at_call 73; refine (rwnext_any (s.head x.key) w2 (H.out.below B2.below) HOK.out.may).mono ?_; rintro e w3 ⟨rfl, hb3⟩; have B3 := B2.move hb3)
    | (refine wpl_ld rfl 45 _ rfl (r.cells s) rfl _ B2.a0 Tryz.underlying45 rfl (by kernel_rfl) rfl ?_)
    | (refine wpl_st rfl 3 _ _ rfl (Walk.cells { x with phase := 0, pred := s.head x.key }) rfl _ rfl B1.a1 (by kernel_rfl) rfl rfl rfl ?_; intro w2 A2 O2
       have B2 := B1.walk A2 O2
       have c3 := A2.cell 3)
    | (go_at_call 161; refine (rwhead_one x.key w0 HOK.out.may HB.out).mono ?_; rintro e w1 ⟨rfl, hb1⟩; have B1 := B0.move hb1)
    | (refine wpl_ld rfl 45 _ rfl (r.cells s) rfl _ B0.a0 Tryz.underlying45 rfl (by kernel_rfl) rfl ?_))
  have A4b := A6'.only O6 (by show ¬ _ = _; omega)
  have n45 : ¬ w.heap.size + 1 + 1 = w.heap.size + 1 + 1 + 1 := by omega
  refine wp_region_J (l := [_, _, _, _, _, _]) (OutG 4 5 45 76 (w.heap.size + 1 + 1) (w.heap.size + 1 + 1 + 1) zero17 (r.cells (s.load (s.nextAt (s.head x.key)))) zeroW (Walk.cells (((s.load (s.nextAt (s.head x.key)))).arrive { x with phase := 0, pred := s.head x.key, curr := (s.peek (s.nextAt (s.head x.key)) / 2), seen := -1 } (s.peek (s.nextAt (s.head x.key)) / 2))) (fun j v => match j with | 0 => v = .agg (r.cells (s.load (s.nextAt (s.head x.key)))) | 1 => v = .agg (r.cells (s.load (s.nextAt (s.head x.key)))) | 2 => v = .agg (Walk.cells { x with phase := 0, pred := s.head x.key, curr := (s.peek (s.nextAt (s.head x.key)) / 2), seen := -1 }) | 3 => v = .agg (Walk.cells (((s.load (s.nextAt (s.head x.key)))).arrive { x with phase := 0, pred := s.head x.key, curr := (s.peek (s.nextAt (s.head x.key)) / 2), seen := -1 } (s.peek (s.nextAt (s.head x.key)) / 2))) | _ => True) w6.drew) (by kernel_rfl) (by kernel_rfl) (fun us => OutG.start us B6.a2.drew B6.a3.drew) ⟨?_, ?_, ?_, ?_, ?_, ?_, trivial⟩ ?_
  · intro dn us w6 A hev hy hG hdn hdep K hK
    have e0 : A.eval (.tmp 6) = .pointer (some ⟨w3.heap.size, 0, none⟩) := by rw [hev]; rfl
    refine step_list (wpl_ld rfl 45 (.tmp 6) rfl (r.cells (s.load (s.nextAt (s.head x.key)))) e0 _ (A4b.drew.only hG.only fun k => by have k' : w3.heap.size = w.heap.size + 1 + 1 ∨ w3.heap.size = w.heap.size + 1 + 1 + 1 := k; omega) Tryz.underlying45 rfl (by kernel_rfl) rfl ⟨rfl, ?_⟩)
    exact hK _ _ (hG.first (by decide) (by decide) rfl)
  · intro dn us w6 A hev hy hG hdn hdep K hK
    have e0 : A.eval (.tmp 6) = .pointer (some ⟨w3.heap.size, 0, none⟩) := by rw [hev]; rfl
    refine step_list (wpl_ld rfl 45 (.tmp 6) rfl (r.cells (s.load (s.nextAt (s.head x.key)))) e0 _ (A4b.drew.only hG.only fun k => by have k' : w3.heap.size = w.heap.size + 1 + 1 ∨ w3.heap.size = w.heap.size + 1 + 1 + 1 := k; omega) Tryz.underlying45 rfl (by kernel_rfl) rfl ⟨rfl, ?_⟩)
    exact hK _ _ (hG.first (by decide) (by decide) rfl)
  · intro dn us w6 A hev hy hG hdn hdep K hK
    have e0 : A.eval (.tmp 3) = .pointer (some ⟨w.heap.size + 1, 0, none⟩) := by rw [hev]; rfl
    refine step_list (wpl_ld rfl 76 (.tmp 3) rfl (Walk.cells { x with phase := 0, pred := s.head x.key, curr := (s.peek (s.nextAt (s.head x.key)) / 2), seen := -1 }) e0 _ (B6.a1.drew.only hG.only fun k => by have k' : w.heap.size + 1 = w.heap.size + 1 + 1 ∨ w.heap.size + 1 = w.heap.size + 1 + 1 + 1 := k; omega) Tryz.underlying76 rfl (by kernel_rfl) rfl ⟨rfl, ?_⟩)
    exact hK _ _ (hG.first (by decide) (by decide) rfl)
  · intro dn us w6 A hev hy hG hdn hdep K hK
    have d1 : dn 1 = true := allD_mem hdep (by decide)
    have d2 : dn 2 = true := allD_mem hdep (by decide)
    have e0 : A.eval (.tmp 32) = r.val (s.load (s.nextAt (s.head x.key))) := by rw [hev]; exact hG.pre 1 (by decide) (by decide) d1
    have e1 : A.eval (.tmp 33) = Walk.val { x with phase := 0, pred := s.head x.key, curr := (s.peek (s.nextAt (s.head x.key)) / 2), seen := -1 } := by rw [hev]; exact hG.pre 2 (by decide) (by decide) d2
    have ef : A.eval (.func 162) = .func (.func 162) #[] #[] := by rw [hev]; rfl
    rw [if_pos (by rfl)]
    unfold Oper.wp execOp
    generalize A.eval = ev at e0 e1 ef ⊢
    go_simp
    refine (rarrive_any { x with phase := 0, pred := s.head x.key, curr := (s.peek (s.nextAt (s.head x.key)) / 2), seen := -1 } _ ((H.out.load _).below (B6.under' hG.only)) HZ.out).mono ?_
    rintro e wq ⟨rfl, hb⟩
    exact hK _ _ (hG.called (by decide) (by decide) rfl hb)
  · intro dn us w6 A hev hy hG hdn hdep K hK
    have d0 : dn 0 = true := allD_mem hdep (by decide)
    have e0 : A.eval (.tmp 4) = .pointer (some ⟨w.heap.size + 1 + 1, 0, none⟩) := by rw [hev]; rfl
    have e1 : A.eval (.tmp 31) = .agg (r.cells (s.load (s.nextAt (s.head x.key)))) := by rw [hev]; exact hG.pre 0 (by decide) (by decide) d0
    refine step_list (wpl_st rfl 45 (.tmp 4) (.tmp 31) rfl (r.cells (s.load (s.nextAt (s.head x.key)))) e0 _ e1 (hG.old0 hdn) (by kernel_rfl) rfl rfl rfl fun w7 A7 O7 => ⟨rfl, ?_⟩)
    exact hK _ _ (hG.laid0 (by decide) n45 O7 A7 _)
  · intro dn us w6 A hev hy hG hdn hdep K hK
    have d3 : dn 3 = true := allD_mem hdep (by decide)
    have e0 : A.eval (.tmp 5) = .pointer (some ⟨w.heap.size + 1 + 1 + 1, 0, none⟩) := by rw [hev]; rfl
    have e1 : A.eval (.tmp 34) = .agg (Walk.cells (((s.load (s.nextAt (s.head x.key)))).arrive { x with phase := 0, pred := s.head x.key, curr := (s.peek (s.nextAt (s.head x.key)) / 2), seen := -1 } (s.peek (s.nextAt (s.head x.key)) / 2))) := by rw [hev]; exact hG.pre 3 (by decide) (by decide) d3
    refine step_list (wpl_st rfl 76 (.tmp 5) (.tmp 34) rfl (Walk.cells (((s.load (s.nextAt (s.head x.key)))).arrive { x with phase := 0, pred := s.head x.key, curr := (s.peek (s.nextAt (s.head x.key)) / 2), seen := -1 } (s.peek (s.nextAt (s.head x.key)) / 2))) e0 _ e1 (hG.old1 hdn) (by kernel_rfl) rfl rfl rfl fun w7 A7 O7 => ⟨rfl, ?_⟩)
    exact hK _ _ (hG.laid1 (by decide) n45 O7 A7 _)
  intro dn us wE hG hall
  have B4 := hG.out0 (hall 4 (by decide))
  have B5 := hG.out1 (hall 5 (by decide))
  have OE := hG.only
  simp only [fillA, fillT, Nat.reduceAdd]
  clear hG hall
  go_wp2_with fail
  have hBE := B6.under' OE
  exact bodyPost_ret (v := .tuple #[r.val (s.load (s.nextAt (s.head x.key))), Walk.val (((s.load (s.nextAt (s.head x.key)))).arrive { x with phase := 0, pred := s.head x.key, curr := (s.peek (s.nextAt (s.head x.key)) / 2), seen := -1 } (s.peek (s.nextAt (s.head x.key)) / 2))]) (res_cells (fn := Tryz.f90) Tryz.results90 _ _ (w.heap.size + 1 + 1) (w.heap.size + 1 + 1 + 1) _ _ _ _ rfl rfl B4 B5 Tryz.underlying45 rfl (by kernel_rfl) Tryz.underlying76 rfl (by kernel_rfl)) rfl ⟨by rw [HQ.out], hBE⟩

set_option maxRecDepth 100000 in
set_option maxHeartbeats 4000000 in
theorem rlook1_any {r : RV} {s : St} (x : Walk) (w : World) (h : RefIn w r s) (hok : s.ok) (hz : Sized s) :
    Calls Tryz.prog 90 #[r.val s, Walk.val { x with phase := 1 }] w fun e w' => e = .returned (.tuple #[r.val (s.walkPeek { x with phase := 1 }).1, Walk.val (s.walkPeek { x with phase := 1 }).2]) ∧ Below w.heap.size w w' := by
  have HP := Lib.hid (peek_range hok (s.nextAt x.curr))
  cases hm : s.peek (s.nextAt x.curr) % 2 == 1
  · have HQ := Lib.hid (show s.walkPeek { x with phase := 1 } = ((s.load (s.nextAt x.curr)), { x with phase := 3, next := (s.peek (s.nextAt x.curr)) }) by unfold St.walkPeek; dsimp only; rw [hm]; rfl)
    have HM := Lib.hid hm
    clear hm
    have H := Lib.hid h
    have HOK := Lib.hid hok
    have HZ := Lib.hid hz
    have B0 := Box4.new 76 zeroW w (r.cells s) (Walk.cells { x with phase := 1 })
    clear h hok hz
    go_enter Tryz.func90, Tryz.ntmps90
    go_upto_region 1 with fail
    generalize (((w.alloc (.cells (r.cells s) 45)).alloc (.cells (Walk.cells { x with phase := 1 }) 76)).alloc (.cells zero17 45)).alloc (.cells zeroW 76) = w0 at *
    obtain ⟨⟨y0, y1, y2, y3, y4, y5, y6, y7, y8, y9⟩, -, yl⟩ := at10 B0.a1
    go_wp2_with (first
      | (refine wpl_st rfl 3 _ _ rfl (Walk.cells { x with phase := 2, next := (s.peek (s.nextAt x.curr)) }) rfl _ rfl B3.a1 (by kernel_rfl) rfl rfl rfl ?_; intro w5 A5 O5
         have B4 := B3.walk A5 O5
         have A7 := A6.only O5 (by show ¬ _ = _; omega))
      | (go_at_call 61; refine (rmarked_any _ _ HP.out.1 HP.out.2).mono ?_; rw [HM.out]; rintro e wi ⟨rfl, rfl⟩)
      | (refine wpl_st rfl 3 _ _ rfl (Walk.cells { x with phase := 3, next := (s.peek (s.nextAt x.curr)) }) rfl _ rfl B2.a1 (by kernel_rfl) rfl rfl rfl ?_; intro w4 A4 O4
         have B3 := B2.walk A4 O4
         have A6 := A2b.only O4 (by show ¬ _ = _; omega))
      | (refine wpl_st rfl 26 _ _ rfl (Walk.cells { x with phase := 1, next := (s.peek (s.nextAt x.curr)) }) rfl _ rfl B1b.a1 (by kernel_rfl) rfl rfl rfl ?_; intro w3 A3 O3
         have B2 := B1b.walk A3 O3
         have A2b := A2.only O3 (by show ¬ _ = _; omega))
      | (refine wpl_st rfl 45 _ _ rfl (r.cells (s.load (s.nextAt x.curr))) rfl _ rfl (At.new w1 _ _) (by kernel_rfl) rfl rfl rfl ?_; intro w2 A2 O2
         have B1b := B1.far O2
         have l1 := B1.a3.lt)
      | (go_at_call 73; refine (rwnext_any x.curr w0 (H.out.below B0.below) HOK.out.may).mono ?_; rintro e w1 ⟨rfl, hb1⟩; have B1 := B0.move hb1)
      | (refine wpl_ld rfl 45 _ rfl (r.cells s) rfl _ B0.a0 Tryz.underlying45 rfl (by kernel_rfl) rfl ?_))
    refine wp_out4 (gX := w1.heap.size) (gW := w.heap.size + 1) (g4 := w.heap.size + 1 + 1) (g5 := w.heap.size + 1 + 1 + 1) (cs := r.cells (s.load (s.nextAt x.curr))) (c0 := zero17) (cw := Walk.cells { x with phase := 3, next := (s.peek (s.nextAt x.curr)) }) (c1 := zeroW) (by kernel_rfl) (by kernel_rfl) ⟨rfl, rfl, rfl, rfl⟩ rfl rfl rfl rfl (fun _ => rfl) (fun _ => rfl) (fun _ => rfl) (fun _ => rfl) (fun _ => rfl) (fun _ => rfl) (by decide) (by decide) A6 B3.a1 B3.a2 B3.a3 (by omega) (by omega) (by omega) (by omega) (by omega) Tryz.underlying45 rfl (by kernel_rfl) rfl (rv_one _ _) Tryz.underlying76 rfl (by kernel_rfl) rfl (walk_one _) ?_
    intro us wE C4 C5 OE
    simp only [fillA, fillT, Nat.reduceAdd]
    go_wp2_with fail
    have hBE := B3.under OE
    exact bodyPost_ret (v := .tuple #[r.val (s.load (s.nextAt x.curr)), Walk.val { x with phase := 3, next := (s.peek (s.nextAt x.curr)) }]) (res_cells (fn := Tryz.f90) Tryz.results90 _ _ (w.heap.size + 1 + 1) (w.heap.size + 1 + 1 + 1) _ _ _ _ rfl rfl C4 C5 Tryz.underlying45 rfl (by kernel_rfl) Tryz.underlying76 rfl (by kernel_rfl)) rfl ⟨by rw [HQ.out], hBE⟩
  · have HQ := Lib.hid (show s.walkPeek { x with phase := 1 } = ((s.load (s.nextAt x.curr)), { x with phase := 2, next := (s.peek (s.nextAt x.curr)) }) by unfold St.walkPeek; dsimp only; rw [hm]; rfl)
    have HM := Lib.hid hm
    clear hm
    have H := Lib.hid h
    have HOK := Lib.hid hok
    have HZ := Lib.hid hz
    have B0 := Box4.new 76 zeroW w (r.cells s) (Walk.cells { x with phase := 1 })
    clear h hok hz
    go_enter Tryz.func90, Tryz.ntmps90
    go_upto_region 1 with fail
    generalize (((w.alloc (.cells (r.cells s) 45)).alloc (.cells (Walk.cells { x with phase := 1 }) 76)).alloc (.cells zero17 45)).alloc (.cells zeroW 76) = w0 at *
    obtain ⟨⟨y0, y1, y2, y3, y4, y5, y6, y7, y8, y9⟩, -, yl⟩ := at10 B0.a1
    go_wp2_with (first
      | (refine wpl_st rfl 3 _ _ rfl (Walk.cells { x with phase := 2, next := (s.peek (s.nextAt x.curr)) }) rfl _ rfl B3.a1 (by kernel_rfl) rfl rfl rfl ?_; intro w5 A5 O5
         have B4 := B3.walk A5 O5
         have A7 := A6.only O5 (by show ¬ _ = _; omega))
      | (go_at_call 61; refine (rmarked_any _ _ HP.out.1 HP.out.2).mono ?_; rw [HM.out]; rintro e wi ⟨rfl, rfl⟩)
      | (refine wpl_st rfl 3 _ _ rfl (Walk.cells { x with phase := 3, next := (s.peek (s.nextAt x.curr)) }) rfl _ rfl B2.a1 (by kernel_rfl) rfl rfl rfl ?_; intro w4 A4 O4
         have B3 := B2.walk A4 O4
         have A6 := A2b.only O4 (by show ¬ _ = _; omega))
      | (refine wpl_st rfl 26 _ _ rfl (Walk.cells { x with phase := 1, next := (s.peek (s.nextAt x.curr)) }) rfl _ rfl B1b.a1 (by kernel_rfl) rfl rfl rfl ?_; intro w3 A3 O3
         have B2 := B1b.walk A3 O3
         have A2b := A2.only O3 (by show ¬ _ = _; omega))
      | (refine wpl_st rfl 45 _ _ rfl (r.cells (s.load (s.nextAt x.curr))) rfl _ rfl (At.new w1 _ _) (by kernel_rfl) rfl rfl rfl ?_; intro w2 A2 O2
         have B1b := B1.far O2
         have l1 := B1.a3.lt)
      | (go_at_call 73; refine (rwnext_any x.curr w0 (H.out.below B0.below) HOK.out.may).mono ?_; rintro e w1 ⟨rfl, hb1⟩; have B1 := B0.move hb1)
      | (refine wpl_ld rfl 45 _ rfl (r.cells s) rfl _ B0.a0 Tryz.underlying45 rfl (by kernel_rfl) rfl ?_))
    refine wp_out4 (gX := w1.heap.size) (gW := w.heap.size + 1) (g4 := w.heap.size + 1 + 1) (g5 := w.heap.size + 1 + 1 + 1) (cs := r.cells (s.load (s.nextAt x.curr))) (c0 := zero17) (cw := Walk.cells { x with phase := 2, next := (s.peek (s.nextAt x.curr)) }) (c1 := zeroW) (by kernel_rfl) (by kernel_rfl) ⟨rfl, rfl, rfl, rfl⟩ rfl rfl rfl rfl (fun _ => rfl) (fun _ => rfl) (fun _ => rfl) (fun _ => rfl) (fun _ => rfl) (fun _ => rfl) (by decide) (by decide) A7 B4.a1 B4.a2 B4.a3 (by omega) (by omega) (by omega) (by omega) (by omega) Tryz.underlying45 rfl (by kernel_rfl) rfl (rv_one _ _) Tryz.underlying76 rfl (by kernel_rfl) rfl (walk_one _) ?_
    intro us wE C4 C5 OE
    simp only [fillA, fillT, Nat.reduceAdd]
    go_wp2_with fail
    have hBE := B4.under OE
    exact bodyPost_ret (v := .tuple #[r.val (s.load (s.nextAt x.curr)), Walk.val { x with phase := 2, next := (s.peek (s.nextAt x.curr)) }]) (res_cells (fn := Tryz.f90) Tryz.results90 _ _ (w.heap.size + 1 + 1) (w.heap.size + 1 + 1 + 1) _ _ _ _ rfl rfl C4 C5 Tryz.underlying45 rfl (by kernel_rfl) Tryz.underlying76 rfl (by kernel_rfl)) rfl ⟨by rw [HQ.out], hBE⟩

set_option maxRecDepth 100000 in
set_option maxHeartbeats 4000000 in
theorem rlook3_any {r : RV} {s : St} (x : Walk) (w : World) (h : RefIn w r s) (hok : s.ok) (hz : Sized s) (hn : 0 ≤ x.next ∧ x.next ≤ 18446744073709551615) :
    Calls Tryz.prog 90 #[r.val s, Walk.val { x with phase := 3 }] w fun e w' => e = .returned (.tuple #[r.val (s.walkJudge { x with phase := 3 }).1, Walk.val (s.walkJudge { x with phase := 3 }).2]) ∧ Below w.heap.size w w' := by
  have HP := Lib.hid (peek_range hok (s.wordAt (s.carried x.curr)))
  have HN := Lib.hid hn
  have HQ := Lib.hid (show s.walkJudge { x with phase := 3 } = ((s.load (s.wordAt (s.carried x.curr))), (St.judged (s.load (s.wordAt (s.carried x.curr))) { x with phase := 3 } (s.peek (s.wordAt (s.carried x.curr))))) from rfl)
  clear hn
  have H := Lib.hid h
  have HOK := Lib.hid hok
  have HZ := Lib.hid hz
  have B0 := Box4.new 76 zeroW w (r.cells s) (Walk.cells { x with phase := 3 })
  clear h hok hz
  go_enter Tryz.func90, Tryz.ntmps90
  go_upto_region 1 with fail
  generalize (((w.alloc (.cells (r.cells s) 45)).alloc (.cells (Walk.cells { x with phase := 3 }) 76)).alloc (.cells zero17 45)).alloc (.cells zeroW 76) = w0 at *
  obtain ⟨⟨y0, y1, y2, y3, y4, y5, y6, y7, y8, y9⟩, -, yl⟩ := at10 B0.a1
  go_wp2_with fail
  refine wp_region_J (l := [_, _, _, _, _, _, _, _, _, _, _, _, _]) (CallG 6 2 45 zero17 (fun j v => match j with | 0 => v = .agg (r.cells s) | 1 => v = .pointer (some ⟨w.heap.size, 7, none⟩) | 2 => v = .agg (r.bcells s) | 3 => v = .pointer (some ⟨w.heap.size + 1, 4, none⟩) | 4 => v = .int .i64 x.curr | 5 => v = .int .i64 (s.carried x.curr) | _ => False) (fun ρ => [.agg (ρ.cells (s.load (s.wordAt (s.carried x.curr)))), .int .u64 (s.peek (s.wordAt (s.carried x.curr)))]) (fun ρ => ρ.cells (s.load (s.wordAt (s.carried x.curr)))) (fun ρ _ => ρ = r) w0) (by kernel_rfl) (by kernel_rfl) (fun us => CallG.start us) ⟨?_, ?_, ?_, ?_, ?_, ?_, ?_, ?_, ?_, ?_, ?_, ?_, ?_, trivial⟩ ?_
  · intro dn us w6 A hev hy hG hdn hdep K hK
    have e0 : A.eval (.tmp 2) = .pointer (some ⟨w.heap.size, 0, none⟩) := by rw [hev]; rfl
    refine step_list (wpl_ld rfl 45 (.tmp 2) rfl (r.cells s) e0 _ (B0.a0.only hG.only id) Tryz.underlying45 rfl (by kernel_rfl) rfl ⟨rfl, ?_⟩)
    exact hK _ _ (hG.first (by decide) rfl)
  · intro dn us w6 A hev hy hG hdn hdep K hK
    have e0 : A.eval (.tmp 2) = .pointer (some ⟨w.heap.size, 0, none⟩) := by rw [hev]; rfl
    rw [if_pos (by rfl)]
    unfold Oper.wp execOp
    generalize A.eval = ev at e0 ⊢
    go_simp
    exact hK _ _ (hG.first (by decide) rfl)
  · intro dn us w6 A hev hy hG hdn hdep K hK
    have d1 : dn 1 = true := allD_mem hdep (by decide)
    have e0 : A.eval (.tmp 55) = .pointer (some ⟨w.heap.size, 7, none⟩) := by rw [hev]; exact hG.pre 1 (by decide) d1
    refine step_list (wpl_ld rfl 43 (.tmp 55) rfl (r.bcells s) e0 _ (B0.a0.only hG.only id) Tryz.underlying43 rfl (by kernel_rfl) rfl ⟨rfl, ?_⟩)
    exact hK _ _ (hG.first (by decide) rfl)
  · intro dn us w6 A hev hy hG hdn hdep K hK
    have e0 : A.eval (.tmp 3) = .pointer (some ⟨w.heap.size + 1, 0, none⟩) := by rw [hev]; rfl
    rw [if_pos (by rfl)]
    unfold Oper.wp execOp
    generalize A.eval = ev at e0 ⊢
    go_simp
    exact hK _ _ (hG.first (by decide) rfl)
  · intro dn us w6 A hev hy hG hdn hdep K hK
    have d3 : dn 3 = true := allD_mem hdep (by decide)
    have e0 : A.eval (.tmp 57) = .pointer (some ⟨w.heap.size + 1, 4, none⟩) := by rw [hev]; exact hG.pre 3 (by decide) d3
    have cc0 : w6.cell? ⟨w.heap.size + 1, 4, none⟩ = some (.int .i64 x.curr) := by rw [hG.only.cell yl id]; exact y4
    rw [if_pos (by rfl)]
    unfold Oper.wp execOp
    generalize A.eval = ev at e0 ⊢
    go_simp
    exact hK _ _ (hG.first (by decide) rfl)
  · intro dn us w6 A hev hy hG hdn hdep K hK
    have d2 : dn 2 = true := allD_mem hdep (by decide)
    have d4 : dn 4 = true := allD_mem hdep (by decide)
    have e0 : A.eval (.tmp 56) = r.book s := by rw [hev]; exact hG.pre 2 (by decide) d2
    have e1 : A.eval (.tmp 58) = .int .i64 x.curr := by rw [hev]; exact hG.pre 4 (by decide) d4
    have ef : A.eval (.func 78) = .func (.func 78) #[] #[] := by rw [hev]; rfl
    rw [if_pos (by rfl)]
    unfold Oper.wp execOp
    generalize A.eval = ev at e0 e1 ef ⊢
    go_simp
    refine (rcarried_any x.curr _ (H.out.book.below (B0.below.trans (hG.only.below (by have := B0.a3.lt; omega) fun _ _ => id))) HZ.out.2).mono ?_
    rintro e wq ⟨rfl, hb⟩
    exact hK _ _ (hG.firstB (fun _ _ _ e => e) (by decide) rfl hb)
  · intro dn us w6 A hev hy hG hdn hdep K hK
    have d0 : dn 0 = true := allD_mem hdep (by decide)
    have d5 : dn 5 = true := allD_mem hdep (by decide)
    have e0 : A.eval (.tmp 54) = r.val s := by rw [hev]; exact hG.pre 0 (by decide) d0
    have e1 : A.eval (.tmp 59) = .int .i64 (s.carried x.curr) := by rw [hev]; exact hG.pre 5 (by decide) d5
    have ef : A.eval (.func 77) = .func (.func 77) #[] #[] := by rw [hev]; rfl
    rw [if_pos (by rfl)]
    unfold Oper.wp execOp
    generalize A.eval = ev at e0 e1 ef ⊢
    go_simp
    refine (rwword_any (s.carried x.curr) _ (H.out.below (B0.below.trans (hG.only.below (by have := B0.a3.lt; omega) fun _ _ => id))) HOK.out.may).mono ?_
    rintro e wq ⟨rfl, hb⟩
    exact hK _ _ (hG.called (ρ := r) hdn hb rfl fun _ _ _ _ _ _ => rfl)
  · intro dn us w6 A hev hy hG hdn hdep K hK
    have d6 : dn 6 = true := allD_mem hdep (by decide)
    have e0 : A.eval (.tmp 60) = us 6 := by rw [hev]; rfl
    refine step_list (wpl_move rfl _ (.inl rfl) ⟨rfl, ?_⟩)
    rw [e0]
    exact hK _ _ (hG.moved d6)
  · intro dn us w6 A hev hy hG hdn hdep K hK
    have d7 : dn 7 = true := allD_mem hdep (by decide)
    obtain ⟨dk, uk1⟩ := hG.mv d7
    obtain ⟨ρ, uk, hRR⟩ := hG.call dk
    clear hRR
    have e0 : A.eval (.tmp 53) = .tuple #[.agg (ρ.cells (s.load (s.wordAt (s.carried x.curr)))), .int .u64 (s.peek (s.wordAt (s.carried x.curr)))] := by rw [hev]; exact uk1.trans uk
    rw [if_pos (by rfl)]
    unfold Oper.wp execOp
    generalize A.eval = ev at e0 ⊢
    go_simp
    refine hK _ _ (hG.took (i := 0) (by decide) dk fun ρ' hρ' => ?_)
    rw [uk] at hρ'
    injection hρ' with hρ'
    rw [← List.toArray_inj hρ']
    rfl
  · intro dn us w6 A hev hy hG hdn hdep K hK
    have d7 : dn 7 = true := allD_mem hdep (by decide)
    obtain ⟨dk, uk1⟩ := hG.mv d7
    obtain ⟨ρ, uk, hRR⟩ := hG.call dk
    clear hRR
    have e0 : A.eval (.tmp 53) = .tuple #[.agg (ρ.cells (s.load (s.wordAt (s.carried x.curr)))), .int .u64 (s.peek (s.wordAt (s.carried x.curr)))] := by rw [hev]; exact uk1.trans uk
    rw [if_pos (by rfl)]
    unfold Oper.wp execOp
    generalize A.eval = ev at e0 ⊢
    go_simp
    refine hK _ _ (hG.took (i := 1) (by decide) dk fun ρ' hρ' => ?_)
    rw [uk] at hρ'
    injection hρ' with hρ'
    rw [← List.toArray_inj hρ']
    rfl
  · intro dn us w6 A hev hy hG hdn hdep K hK
    rw [if_pos (by rfl)]
    unfold Oper.wp execOp
    go_simp
    exact hK _ _ (hG.boxed hdn fun ρ hρ => ⟨hρ, fun _ _ => hρ⟩)
  · intro dn us w6 A hev hy hG hdn hdep K hK
    have d8 : dn 8 = true := allD_mem hdep (by decide)
    have d10 : dn 10 = true := allD_mem hdep (by decide)
    obtain ⟨dk, ux⟩ := hG.ext 0 (by decide) d8
    obtain ⟨ρ, uk, hRR⟩ := hG.call dk
    clear hRR
    obtain ⟨gb, ub, _, _, ab, _⟩ := hG.box d10
    have vx : us 8 = .agg (ρ.cells (s.load (s.wordAt (s.carried x.curr)))) := by have := ux ρ uk; simpa using this
    have e0 : A.eval (.tmp 10) = .pointer (some ⟨gb, 0, none⟩) := by rw [hev]; exact ub
    have e1 : A.eval (.tmp 61) = .agg (ρ.cells (s.load (s.wordAt (s.carried x.curr)))) := by rw [hev]; exact vx
    refine step_list (wpl_st rfl 45 (.tmp 10) (.tmp 61) rfl (ρ.cells (s.load (s.wordAt (s.carried x.curr)))) e0 _ e1 (ab hdn) (by kernel_rfl) rfl rfl rfl fun w7 A7 O7 => ⟨rfl, ?_⟩)
    refine hK _ _ (hG.laid dk d10 ub O7 (fun ρ' hρ' => ?_) _)
    have hv := ux ρ' hρ'
    have hv' : Value.agg (ρ.cells (s.load (s.wordAt (s.carried x.curr)))) = .agg (ρ'.cells (s.load (s.wordAt (s.carried x.curr)))) := by rw [← vx]; simpa using hv
    injection hv' with hv'
    exact cells_at A7 hv'
  · intro dn us w6 A hev hy hG hdn hdep K hK
    have d9 : dn 9 = true := allD_mem hdep (by decide)
    obtain ⟨dk, u1⟩ := hG.ext 1 (by decide) d9
    have e0 : A.eval (.tmp 62) = us 9 := by rw [hev]; rfl
    refine step_list (wpl_move rfl _ (.inr rfl) ⟨rfl, ?_⟩)
    rw [e0]
    exact hK _ _ (hG.said (i := 1) (by decide) (by decide) dk u1)
  intro dn us w6 hG hall
  obtain ⟨ρ, u6, hρ, _⟩ := hG.call (hall 6 (by decide))
  subst hρ
  obtain ⟨gB, u10, gBa, gBb, _, aB⟩ := hG.box (hall 10 (by decide))
  have A12 : At w6 gB 45 (ρ.cells (s.load (s.wordAt (s.carried x.curr)))) := (aB (hall 11 (by decide))).2 ρ u6
  have u12 : us 12 = .int .u64 (s.peek (s.wordAt (s.carried x.curr))) := by have := (hG.asg 1 (by decide) (by decide) (hall 12 (by decide))).2 ρ u6; simpa using this
  have l0 := B0.a3.lt
  have B1 : Box4 76 zeroW w (ρ.cells s) (Walk.cells { x with phase := 3 }) w6 := ⟨B0.a0.only hG.only id, B0.a1.only hG.only id, B0.a2.only hG.only id, B0.a3.only hG.only id, B0.below.trans (hG.only.below (by omega) fun _ _ => id)⟩
  simp only [fillA, fillT, Nat.reduceAdd, List.setIfInBounds_toArray, List.set_cons_zero, List.set_cons_succ, u10, u12]
  clear hG hall u6 u10 u12 aB
  go_upto_region 15 with fail
  have n45 : ¬ w.heap.size + 1 + 1 = w.heap.size + 1 + 1 + 1 := by omega
  refine wp_region_J (l := [_, _, _, _, _, _, _]) (OutG 5 6 45 76 (w.heap.size + 1 + 1) (w.heap.size + 1 + 1 + 1) zero17 (ρ.cells (s.load (s.wordAt (s.carried x.curr)))) zeroW (Walk.cells (St.judged (s.load (s.wordAt (s.carried x.curr))) { x with phase := 3 } (s.peek (s.wordAt (s.carried x.curr))))) (fun j v => match j with | 0 => v = .agg (ρ.cells (s.load (s.wordAt (s.carried x.curr)))) | 1 => v = .agg (ρ.cells (s.load (s.wordAt (s.carried x.curr)))) | 2 => v = .agg (Walk.cells { x with phase := 3 }) | 3 => v = .int .u64 (s.peek (s.wordAt (s.carried x.curr))) | 4 => v = .agg (Walk.cells (St.judged (s.load (s.wordAt (s.carried x.curr))) { x with phase := 3 } (s.peek (s.wordAt (s.carried x.curr))))) | _ => True) w6.drew) (by kernel_rfl) (by kernel_rfl) (fun us => OutG.start us B1.a2.drew B1.a3.drew) ⟨?_, ?_, ?_, ?_, ?_, ?_, ?_, trivial⟩ ?_
  · intro dn us w6 A hev hy hG hdn hdep K hK
    have e0 : A.eval (.tmp 10) = .pointer (some ⟨gB, 0, none⟩) := by rw [hev]; rfl
    refine step_list (wpl_ld rfl 45 (.tmp 10) rfl (ρ.cells (s.load (s.wordAt (s.carried x.curr)))) e0 _ (A12.drew.only hG.only fun k => by have k' : gB = w.heap.size + 1 + 1 ∨ gB = w.heap.size + 1 + 1 + 1 := k; omega) Tryz.underlying45 rfl (by kernel_rfl) rfl ⟨rfl, ?_⟩)
    exact hK _ _ (hG.first (by decide) (by decide) rfl)
  · intro dn us w6 A hev hy hG hdn hdep K hK
    have e0 : A.eval (.tmp 10) = .pointer (some ⟨gB, 0, none⟩) := by rw [hev]; rfl
    refine step_list (wpl_ld rfl 45 (.tmp 10) rfl (ρ.cells (s.load (s.wordAt (s.carried x.curr)))) e0 _ (A12.drew.only hG.only fun k => by have k' : gB = w.heap.size + 1 + 1 ∨ gB = w.heap.size + 1 + 1 + 1 := k; omega) Tryz.underlying45 rfl (by kernel_rfl) rfl ⟨rfl, ?_⟩)
    exact hK _ _ (hG.first (by decide) (by decide) rfl)
  · intro dn us w6 A hev hy hG hdn hdep K hK
    have e0 : A.eval (.tmp 3) = .pointer (some ⟨w.heap.size + 1, 0, none⟩) := by rw [hev]; rfl
    refine step_list (wpl_ld rfl 76 (.tmp 3) rfl (Walk.cells { x with phase := 3 }) e0 _ (B1.a1.drew.only hG.only fun k => by have k' : w.heap.size + 1 = w.heap.size + 1 + 1 ∨ w.heap.size + 1 = w.heap.size + 1 + 1 + 1 := k; omega) Tryz.underlying76 rfl (by kernel_rfl) rfl ⟨rfl, ?_⟩)
    exact hK _ _ (hG.first (by decide) (by decide) rfl)
  · intro dn us w6 A hev hy hG hdn hdep K hK
    have e0 : A.eval (.tmp 11) = .int .u64 (s.peek (s.wordAt (s.carried x.curr))) := by rw [hev]; rfl
    rw [if_pos (by rfl)]
    unfold Oper.wp execOp
    generalize A.eval = ev at e0 ⊢
    go_simp
    exact hK _ _ (hG.first (by decide) (by decide) rfl)
  · intro dn us w6 A hev hy hG hdn hdep K hK
    have d1 : dn 1 = true := allD_mem hdep (by decide)
    have d2 : dn 2 = true := allD_mem hdep (by decide)
    have d3 : dn 3 = true := allD_mem hdep (by decide)
    have e0 : A.eval (.tmp 64) = ρ.val (s.load (s.wordAt (s.carried x.curr))) := by rw [hev]; exact hG.pre 1 (by decide) (by decide) d1
    have e1 : A.eval (.tmp 65) = Walk.val { x with phase := 3 } := by rw [hev]; exact hG.pre 2 (by decide) (by decide) d2
    have e2 : A.eval (.tmp 66) = .int .u64 (s.peek (s.wordAt (s.carried x.curr))) := by rw [hev]; exact hG.pre 3 (by decide) (by decide) d3
    have ef : A.eval (.func 163) = .func (.func 163) #[] #[] := by rw [hev]; rfl
    rw [if_pos (by rfl)]
    unfold Oper.wp execOp
    generalize A.eval = ev at e0 e1 e2 ef ⊢
    go_simp
    refine (rjudge_any { x with phase := 3 } (s.peek (s.wordAt (s.carried x.curr))) _ ((H.out.load _).below (B1.under' hG.only)) HZ.out HN.out HP.out.1).mono ?_
    rintro e wq ⟨rfl, hb⟩
    exact hK _ _ (hG.called (by decide) (by decide) rfl hb)
  · intro dn us w6 A hev hy hG hdn hdep K hK
    have d0 : dn 0 = true := allD_mem hdep (by decide)
    have e0 : A.eval (.tmp 4) = .pointer (some ⟨w.heap.size + 1 + 1, 0, none⟩) := by rw [hev]; rfl
    have e1 : A.eval (.tmp 63) = .agg (ρ.cells (s.load (s.wordAt (s.carried x.curr)))) := by rw [hev]; exact hG.pre 0 (by decide) (by decide) d0
    refine step_list (wpl_st rfl 45 (.tmp 4) (.tmp 63) rfl (ρ.cells (s.load (s.wordAt (s.carried x.curr)))) e0 _ e1 (hG.old0 hdn) (by kernel_rfl) rfl rfl rfl fun w7 A7 O7 => ⟨rfl, ?_⟩)
    exact hK _ _ (hG.laid0 (by decide) n45 O7 A7 _)
  · intro dn us w6 A hev hy hG hdn hdep K hK
    have d4 : dn 4 = true := allD_mem hdep (by decide)
    have e0 : A.eval (.tmp 5) = .pointer (some ⟨w.heap.size + 1 + 1 + 1, 0, none⟩) := by rw [hev]; rfl
    have e1 : A.eval (.tmp 67) = .agg (Walk.cells (St.judged (s.load (s.wordAt (s.carried x.curr))) { x with phase := 3 } (s.peek (s.wordAt (s.carried x.curr))))) := by rw [hev]; exact hG.pre 4 (by decide) (by decide) d4
    refine step_list (wpl_st rfl 76 (.tmp 5) (.tmp 67) rfl (Walk.cells (St.judged (s.load (s.wordAt (s.carried x.curr))) { x with phase := 3 } (s.peek (s.wordAt (s.carried x.curr))))) e0 _ e1 (hG.old1 hdn) (by kernel_rfl) rfl rfl rfl fun w7 A7 O7 => ⟨rfl, ?_⟩)
    exact hK _ _ (hG.laid1 (by decide) n45 O7 A7 _)
  intro dn us wE hG hall
  have B4 := hG.out0 (hall 5 (by decide))
  have B5 := hG.out1 (hall 6 (by decide))
  have OE := hG.only
  simp only [fillA, fillT, Nat.reduceAdd]
  clear hG hall
  go_wp2_with fail
  have hBE := B1.under' OE
  exact bodyPost_ret (v := .tuple #[ρ.val (s.load (s.wordAt (s.carried x.curr))), Walk.val (St.judged (s.load (s.wordAt (s.carried x.curr))) { x with phase := 3 } (s.peek (s.wordAt (s.carried x.curr))))]) (res_cells (fn := Tryz.f90) Tryz.results90 _ _ (w.heap.size + 1 + 1) (w.heap.size + 1 + 1 + 1) _ _ _ _ rfl rfl B4 B5 Tryz.underlying45 rfl (by kernel_rfl) Tryz.underlying76 rfl (by kernel_rfl)) rfl ⟨by rw [HQ.out], hBE⟩
end Go.Proofs.YtccmjljlfgbicaaGreat

