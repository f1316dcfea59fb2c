/- Contracts of the document's answer: corrieref10.unlink. Printed by stepgen.py. -/
import Derived.Test.YtccmjljlfgbicaaGreatZG15
import Derived.Test.YtccmjljlfgbicaaGreatZG19
import Derived.Test.YtccmjljlfgbicaaGreatZRefG3
import Derived.Test.YtccmjljlfgbicaaGreatZG2
import Derived.Test.YtccmjljlfgbicaaGreatZWalkE
namespace Go.Proofs.YtccmjljlfgbicaaGreat
open Go.ChangeShapes Go.WideShapes Go.ChangeAt Go.RowKit

set_option maxRecDepth 100000 in
set_option maxHeartbeats 4000000 in
theorem runlink_any {r : RV} {s : St} (x : Walk) (w : World) (h : RefIn w r s) (hok : s.ok) (hz : Sized s) (hn : 0 ≤ x.next ∧ x.next ≤ 18446744073709551615) :
    Calls Tryz.prog 91 #[r.val s, Walk.val { x with phase := 2 }] w (RefOut w r (fun v => .tuple #[v, Walk.val (s.walkUnlink { x with phase := 2 }).2]) (s.walkUnlink { x with phase := 2 }).1) := by
  have HN := Lib.hid hn
  generalize hs1 : s.swap (s.nextAt x.pred) (refOf x.curr false) (refOf (x.next / 2) false) = s1
  generalize hsw : s.swaps (s.nextAt x.pred) (refOf x.curr false) = sw
  have hwl : 2 ≤ s1.words.length := by rw [← hs1, swap_len]; exact words_two hok
  have hz1 : Sized s1 := by rw [← hs1]; exact hz
  have hb1 : s1.thr = s.thr ∧ s1.ops = s.ops ∧ s1.nodes = s.nodes := by rw [← hs1]; exact ⟨rfl, rfl, rfl⟩
  have har : ∀ y : Walk, ∀ n, s1.arrive y n = s.arrive y n := by intro y n; rw [← hs1]; rfl
  have HAR := Lib.hid har
  have HB1 := Lib.hid hb1
  have HZ1 := Lib.hid hz1
  have HS1 := Lib.hid hs1
  have HSW := Lib.hid hsw
  have HRO := Lib.hid (rows_lt h.book (by have := hok.thr; have := may_bounds hok.may; omega))
  clear hn hs1 hz1 hb1 har
  have H := Lib.hid h
  have HOK := Lib.hid hok
  have HZ := Lib.hid hz
  have B0 := Box4.new 76 zeroW w (r.cells s) (Walk.cells { x with phase := 2 })
  clear h hok hz
  go_enter Tryz.func91, Tryz.ntmps91
  go_upto_region 1 with fail
  generalize (((w.alloc (.cells (r.cells s) 45)).alloc (.cells (Walk.cells { x with phase := 2 }) 76)).alloc (.cells zero17 45)).alloc (.cells zeroW 76) = w0 at *
  obtain ⟨⟨y0, y1, y2, y3, y4, y5, y6, y7, y8, y9⟩, -, yl⟩ := at10 B0.a1
  go_wp2_with (go_at_call 75; refine (rindex_any _ _ HN.out.1 HN.out.2).mono ?_; rintro e wi ⟨rfl, rfl⟩)
  refine wp_region_J (l := [_, _, _, _, _, _, _, _, _, _, _, _, _, _, _]) (CallG 8 2 45 zero17 (fun j v => match j with | 0 => v = .agg (r.cells s) | 1 => v = .pointer (some ⟨w.heap.size + 1, 3, none⟩) | 2 => v = .int .i64 x.pred | 3 => v = .pointer (some ⟨w.heap.size + 1, 4, none⟩) | 4 => v = .int .i64 x.curr | 5 => v = .int .u64 (refOf x.curr false) | 6 => v = .int .i64 (x.next / 2) | 7 => v = .int .u64 (refOf (x.next / 2) false) | _ => False) (fun ρ => [.agg (ρ.cells s1), .bool sw]) (fun ρ => ρ.cells s1) (fun ρ w' => ReadAt w' ρ.w.1 (wordsV s1.words) ∧ ρ = { r with w := ρ.w } ∧ Fr w0.heap.size r.w.1 ρ.w.1) w0) (by kernel_rfl) (by kernel_rfl) (fun us => CallG.start us) ⟨?_, ?_, ?_, ?_, ?_, ?_, ?_, ?_, ?_, ?_, ?_, ?_, ?_, ?_, ?_, trivial⟩ ?_
  · intro dn us w6 A hev hy hG hdn hdep K hK
    have e0 : A.eval (.tmp 2) = .pointer (some ⟨w.heap.size, 0, none⟩) := by rw [hev]; rfl
    refine step_list (wpl_ld rfl 45 (.tmp 2) rfl (r.cells s) e0 _ (B0.a0.only hG.only id) Tryz.underlying45 rfl (by kernel_rfl) rfl ⟨rfl, ?_⟩)
    exact hK _ _ (hG.first (by decide) rfl)
  · intro dn us w6 A hev hy hG hdn hdep K hK
    have e0 : A.eval (.tmp 3) = .pointer (some ⟨w.heap.size + 1, 0, none⟩) := by rw [hev]; rfl
    rw [if_pos (by rfl)]
    unfold Oper.wp execOp
    generalize A.eval = ev at e0 ⊢
    go_simp
    exact hK _ _ (hG.first (by decide) rfl)
  · intro dn us w6 A hev hy hG hdn hdep K hK
    have d1 : dn 1 = true := allD_mem hdep (by decide)
    have e0 : A.eval (.tmp 14) = .pointer (some ⟨w.heap.size + 1, 3, none⟩) := by rw [hev]; exact hG.pre 1 (by decide) d1
    have cc0 : w6.cell? ⟨w.heap.size + 1, 3, none⟩ = some (.int .i64 x.pred) := by rw [hG.only.cell yl id]; exact y3
    rw [if_pos (by rfl)]
    unfold Oper.wp execOp
    generalize A.eval = ev at e0 ⊢
    go_simp
    exact hK _ _ (hG.first (by decide) rfl)
  · intro dn us w6 A hev hy hG hdn hdep K hK
    have e0 : A.eval (.tmp 3) = .pointer (some ⟨w.heap.size + 1, 0, none⟩) := by rw [hev]; rfl
    rw [if_pos (by rfl)]
    unfold Oper.wp execOp
    generalize A.eval = ev at e0 ⊢
    go_simp
    exact hK _ _ (hG.first (by decide) rfl)
  · intro dn us w6 A hev hy hG hdn hdep K hK
    have d3 : dn 3 = true := allD_mem hdep (by decide)
    have e0 : A.eval (.tmp 16) = .pointer (some ⟨w.heap.size + 1, 4, none⟩) := by rw [hev]; exact hG.pre 3 (by decide) d3
    have cc0 : w6.cell? ⟨w.heap.size + 1, 4, none⟩ = some (.int .i64 x.curr) := by rw [hG.only.cell yl id]; exact y4
    rw [if_pos (by rfl)]
    unfold Oper.wp execOp
    generalize A.eval = ev at e0 ⊢
    go_simp
    exact hK _ _ (hG.first (by decide) rfl)
  · intro dn us w6 A hev hy hG hdn hdep K hK
    have d4 : dn 4 = true := allD_mem hdep (by decide)
    have e0 : A.eval (.tmp 17) = .int .i64 x.curr := by rw [hev]; exact hG.pre 4 (by decide) d4
    have e1 : A.eval (.const (.bool false)) = .bool false := by rw [hev]; rfl
    have ef : A.eval (.func 60) = .func (.func 60) #[] #[] := by rw [hev]; rfl
    rw [if_pos (by rfl)]
    unfold Oper.wp execOp
    generalize A.eval = ev at e0 e1 ef ⊢
    go_simp
    refine (rpack_any x.curr false _).mono ?_
    rintro e wq ⟨rfl, rfl⟩
    exact hK _ _ (hG.first (by decide) rfl)
  · intro dn us w6 A hev hy hG hdn hdep K hK
    have e0 : A.eval (.tmp 6) = .int .i64 (x.next / 2) := by rw [hev]; rfl
    rw [if_pos (by rfl)]
    unfold Oper.wp execOp
    generalize A.eval = ev at e0 ⊢
    go_simp
    exact hK _ _ (hG.first (by decide) rfl)
  · intro dn us w6 A hev hy hG hdn hdep K hK
    have d6 : dn 6 = true := allD_mem hdep (by decide)
    have e0 : A.eval (.tmp 19) = .int .i64 (x.next / 2) := by rw [hev]; exact hG.pre 6 (by decide) d6
    have e1 : A.eval (.const (.bool false)) = .bool false := by rw [hev]; rfl
    have ef : A.eval (.func 60) = .func (.func 60) #[] #[] := by rw [hev]; rfl
    rw [if_pos (by rfl)]
    unfold Oper.wp execOp
    generalize A.eval = ev at e0 e1 ef ⊢
    go_simp
    refine (rpack_any (x.next / 2) false _).mono ?_
    rintro e wq ⟨rfl, rfl⟩
    exact hK _ _ (hG.first (by decide) rfl)
  · intro dn us w6 A hev hy hG hdn hdep K hK
    have d0 : dn 0 = true := allD_mem hdep (by decide)
    have d2 : dn 2 = true := allD_mem hdep (by decide)
    have d5 : dn 5 = true := allD_mem hdep (by decide)
    have d7 : dn 7 = true := allD_mem hdep (by decide)
    have e0 : A.eval (.tmp 13) = r.val s := by rw [hev]; exact hG.pre 0 (by decide) d0
    have e1 : A.eval (.tmp 15) = .int .i64 x.pred := by rw [hev]; exact hG.pre 2 (by decide) d2
    have e2 : A.eval (.tmp 18) = .int .u64 (refOf x.curr false) := by rw [hev]; exact hG.pre 5 (by decide) d5
    have e3 : A.eval (.tmp 20) = .int .u64 (refOf (x.next / 2) false) := by rw [hev]; exact hG.pre 7 (by decide) d7
    have ef : A.eval (.func 92) = .func (.func 92) #[] #[] := by rw [hev]; rfl
    have hcon := rwlink_any x.pred (refOf x.curr false) (refOf (x.next / 2) false) w6 (H.out.below (B0.below.trans (hG.only.below (by have := B0.a3.lt; omega) fun _ _ => id))) HOK.out
    rw [HS1.out, HSW.out] at hcon
    rw [if_pos (by rfl)]
    unfold Oper.wp execOp
    generalize A.eval = ev at e0 e1 e2 e3 ef ⊢
    go_simp
    refine (hcon).mono ?_
    rintro e wq ⟨p', rfl, hr, hb, hf⟩
    have hf0 := hf.mono hG.only.size
    exact hK _ _ (hG.called (ρ := { r with w := p' }) hdn hb ⟨hr, rfl, hf0⟩ fun g' _ _ hA w'' hO => ⟨hr.only hO fun b o e _ => words_apart2 hr hA noTwo_zero17 hwl b o e, rfl, hf0⟩)
  · intro dn us w6 A hev hy hG hdn hdep K hK
    have d8 : dn 8 = true := allD_mem hdep (by decide)
    have e0 : A.eval (.tmp 21) = us 8 := by rw [hev]; rfl
    refine step_list (wpl_move rfl _ (.inl rfl) ⟨rfl, ?_⟩)
    rw [e0]
    exact hK _ _ (hG.moved d8)
  · intro dn us w6 A hev hy hG hdn hdep K hK
    have d9 : dn 9 = true := allD_mem hdep (by decide)
    obtain ⟨dk, uk1⟩ := hG.mv d9
    obtain ⟨ρ, uk, hRR⟩ := hG.call dk
    clear hRR
    have e0 : A.eval (.tmp 12) = .tuple #[.agg (ρ.cells s1), .bool sw] := by rw [hev]; exact uk1.trans uk
    rw [if_pos (by rfl)]
    unfold Oper.wp execOp
    generalize A.eval = ev at e0 ⊢
    go_simp
    refine hK _ _ (hG.took (i := 0) (by decide) dk fun ρ' hρ' => ?_)
    rw [uk] at hρ'
    injection hρ' with hρ'
    rw [← List.toArray_inj hρ']
    rfl
  · intro dn us w6 A hev hy hG hdn hdep K hK
    have d9 : dn 9 = true := allD_mem hdep (by decide)
    obtain ⟨dk, uk1⟩ := hG.mv d9
    obtain ⟨ρ, uk, hRR⟩ := hG.call dk
    clear hRR
    have e0 : A.eval (.tmp 12) = .tuple #[.agg (ρ.cells s1), .bool sw] := by rw [hev]; exact uk1.trans uk
    rw [if_pos (by rfl)]
    unfold Oper.wp execOp
    generalize A.eval = ev at e0 ⊢
    go_simp
    refine hK _ _ (hG.took (i := 1) (by decide) dk fun ρ' hρ' => ?_)
    rw [uk] at hρ'
    injection hρ' with hρ'
    rw [← List.toArray_inj hρ']
    rfl
  · intro dn us w6 A hev hy hG hdn hdep K hK
    rw [if_pos (by rfl)]
    unfold Oper.wp execOp
    go_simp
    exact hK _ _ (hG.boxed hdn fun ρ hρ => ⟨⟨hρ.1.below ((Below.refl _ _).alloc (Nat.le_refl _) _), hρ.2⟩, fun w' hO => ⟨(hρ.1.below ((Below.refl _ _).alloc (Nat.le_refl _) _)).only hO fun b o e _ => words_apart2 (hρ.1.below ((Below.refl _ _).alloc (Nat.le_refl _) _)) (At.new w6 45 zero17) noTwo_zero17 hwl b o e, hρ.2⟩⟩)
  · intro dn us w6 A hev hy hG hdn hdep K hK
    have d10 : dn 10 = true := allD_mem hdep (by decide)
    have d12 : dn 12 = true := allD_mem hdep (by decide)
    obtain ⟨dk, ux⟩ := hG.ext 0 (by decide) d10
    obtain ⟨ρ, uk, hRR⟩ := hG.call dk
    clear hRR
    obtain ⟨gb, ub, _, _, ab, _⟩ := hG.box d12
    have vx : us 10 = .agg (ρ.cells s1) := by have := ux ρ uk; simpa using this
    have e0 : A.eval (.tmp 7) = .pointer (some ⟨gb, 0, none⟩) := by rw [hev]; exact ub
    have e1 : A.eval (.tmp 22) = .agg (ρ.cells s1) := by rw [hev]; exact vx
    refine step_list (wpl_st rfl 45 (.tmp 7) (.tmp 22) rfl (ρ.cells s1) e0 _ e1 (ab hdn) (by kernel_rfl) rfl rfl rfl fun w7 A7 O7 => ⟨rfl, ?_⟩)
    refine hK _ _ (hG.laid dk d12 ub O7 (fun ρ' hρ' => ?_) _)
    have hv := ux ρ' hρ'
    have hv' : Value.agg (ρ.cells s1) = .agg (ρ'.cells s1) := by rw [← vx]; simpa using hv
    injection hv' with hv'
    exact cells_at A7 hv'
  · intro dn us w6 A hev hy hG hdn hdep K hK
    have d11 : dn 11 = true := allD_mem hdep (by decide)
    obtain ⟨dk, u1⟩ := hG.ext 1 (by decide) d11
    have e0 : A.eval (.tmp 23) = us 11 := by rw [hev]; rfl
    refine step_list (wpl_move rfl _ (.inr rfl) ⟨rfl, ?_⟩)
    rw [e0]
    exact hK _ _ (hG.said (i := 1) (by decide) (by decide) dk u1)
  intro dn us w6 hG hall
  obtain ⟨ρ, u8, ⟨hWρ, hρe, hfρ⟩, _⟩ := hG.call (hall 8 (by decide))
  obtain ⟨gB, u12, gBa, gBb, _, aB⟩ := hG.box (hall 12 (by decide))
  have A12 : At w6 gB 45 (ρ.cells s1) := (aB (hall 13 (by decide))).2 ρ u8
  have u14 : us 14 = .bool sw := by have := (hG.asg 1 (by decide) (by decide) (hall 14 (by decide))).2 ρ u8; simpa using this
  have l0 := B0.a3.lt
  have HFR := Lib.hid (hfρ.mono (Nat.le_of_lt (by omega : w.heap.size < w0.heap.size)))
  clear hfρ
  have B1 : Box4 76 zeroW w (r.cells s) (Walk.cells { x with phase := 2 }) w6 := ⟨B0.a0.only hG.only id, B0.a1.only hG.only id, B0.a2.only hG.only id, B0.a3.only hG.only id, B0.below.trans (hG.only.below (by omega) fun _ _ => id)⟩
  have HBk : ∀ w', Below w.heap.size w w' → BookIn w' ρ s1 := fun w' hb => by rw [hρe]; exact (H.out.book.below hb).other HB1.out.1 HB1.out.2.1 HB1.out.2.2 _
  have HRo : RowsOff ρ (fun b => ¬ b < w.heap.size) := by rw [hρe]; exact ⟨HRO.out.cs, HRO.out.is, HRO.out.ms, HRO.out.os, HRO.out.ns⟩
  have HBK := Lib.hid HBk
  have HRE := Lib.hid hρe
  clear HBk hρe
  simp only [fillA, fillT, Nat.reduceAdd, List.setIfInBounds_toArray, List.set_cons_zero, List.set_cons_succ, u12, u14]
  clear hG hall u8 u12 u14 aB
  cases sw with
  | false =>
    go_wp2_with (refine wpl_st rfl 3 _ _ rfl (Walk.cells { x with phase := 0 }) rfl _ rfl B1.a1 (by kernel_rfl) rfl rfl rfl ?_; intro w7 A7 O7
                 have B2 := B1.walk A7 O7
                 have A13 := A12.only O7 (by show ¬ _ = _; omega)
                 have hW7 := hWρ.only O7 fun b o e _ => words_apart2 hWρ B1.a1 (noTwo_walk _) hwl b o e)
    have HQ := Lib.hid (show s.walkUnlink { x with phase := 2 } = (s1, { x with phase := 0 }) by unfold St.walkUnlink; dsimp only; rw [HS1.out, HSW.out]; rfl)
    refine wp_out4 (gX := gB) (gW := w.heap.size + 1) (g4 := w.heap.size + 1 + 1) (g5 := w.heap.size + 1 + 1 + 1) (cs := ρ.cells s1) (c0 := zero17) (cw := Walk.cells { x with phase := 0 }) (c1 := zeroW) (by kernel_rfl) (by kernel_rfl) ⟨rfl, rfl, rfl, rfl⟩ rfl rfl rfl rfl (fun _ => rfl) (fun _ => rfl) (fun _ => rfl) (fun _ => rfl) (fun _ => rfl) (fun _ => rfl) (by decide) (by decide) A13 B2.a1 B2.a2 B2.a3 (by omega) (by omega) (by omega) (by omega) (by omega) Tryz.underlying45 rfl (by kernel_rfl) rfl (rv_one _ _) Tryz.underlying76 rfl (by kernel_rfl) rfl (walk_one _) ?_
    intro us wE C4 C5 OE
    simp only [fillA, fillT, Nat.reduceAdd]
    go_wp2_with fail
    have hBE := B2.under OE
    exact bodyPost_ret (v := .tuple #[ρ.val s1, Walk.val { x with phase := 0 }]) (res_cells (fn := Tryz.f91) Tryz.results91 _ _ (w.heap.size + 1 + 1) (w.heap.size + 1 + 1 + 1) _ _ _ _ rfl rfl C4 C5 Tryz.underlying45 rfl (by kernel_rfl) Tryz.underlying76 rfl (by kernel_rfl)) rfl ⟨ρ.w, by rw [HQ.out, ← HRE.out], by rw [HQ.out]; exact hW7.only OE fun b o e _ k => k.elim (words_apart2 hW7 B2.a2 noTwo_zero17 hwl b o e) (words_apart2 hW7 B2.a3 (noTwo_walk _) hwl b o e), hBE, HFR.out⟩
  | true =>
    go_wp2_with (refine wpl_st rfl 3 _ _ rfl (Walk.cells { x with phase := 2, curr := x.next / 2 }) rfl _ rfl B1.a1 (by kernel_rfl) rfl rfl rfl ?_; intro w7 A7 O7
                 have B2 := B1.walk A7 O7
                 have A13 := A12.only O7 (by show ¬ _ = _; omega)
                 have hW7 := hWρ.only O7 fun b o e _ => words_apart2 hWρ B1.a1 (noTwo_walk _) hwl b o e)
    have HQ := Lib.hid (show s.walkUnlink { x with phase := 2 } = (s1, (s1.arrive { x with phase := 2, curr := x.next / 2 } (x.next / 2))) by unfold St.walkUnlink; dsimp only; rw [HS1.out, HSW.out, if_pos rfl, HAR.out]; exact congrArg (Prod.mk s1) (arrive_curr s { x with phase := 2 } _ _).symm)
    have R7 : RefIn w7 ρ s1 := ⟨hW7, HBK.out _ B2.below⟩
    have n45 : ¬ w.heap.size + 1 + 1 = w.heap.size + 1 + 1 + 1 := by omega
    refine wp_region_J (l := [_, _, _, _, _, _]) (OutG 4 5 45 76 (w.heap.size + 1 + 1) (w.heap.size + 1 + 1 + 1) zero17 (ρ.cells s1) zeroW (Walk.cells (s1.arrive { x with phase := 2, curr := x.next / 2 } (x.next / 2))) (fun j v => match j with | 0 => v = .agg (ρ.cells s1) | 1 => v = .agg (ρ.cells s1) | 2 => v = .agg (Walk.cells { x with phase := 2, curr := x.next / 2 }) | 3 => v = .agg (Walk.cells (s1.arrive { x with phase := 2, curr := x.next / 2 } (x.next / 2))) | _ => True) w7.drew) (by kernel_rfl) (by kernel_rfl) (fun us => OutG.start us B2.a2.drew B2.a3.drew) ⟨?_, ?_, ?_, ?_, ?_, ?_, trivial⟩ ?_
    · intro dn us w6 A hev hy hG hdn hdep K hK
      have e0 : A.eval (.tmp 7) = .pointer (some ⟨gB, 0, none⟩) := by rw [hev]; rfl
      refine step_list (wpl_ld rfl 45 (.tmp 7) rfl (ρ.cells s1) e0 _ (A13.drew.only hG.only fun k => by have k' : gB = w.heap.size + 1 + 1 ∨ gB = w.heap.size + 1 + 1 + 1 := k; omega) Tryz.underlying45 rfl (by kernel_rfl) rfl ⟨rfl, ?_⟩)
      exact hK _ _ (hG.first (by decide) (by decide) rfl)
    · intro dn us w6 A hev hy hG hdn hdep K hK
      have e0 : A.eval (.tmp 7) = .pointer (some ⟨gB, 0, none⟩) := by rw [hev]; rfl
      refine step_list (wpl_ld rfl 45 (.tmp 7) rfl (ρ.cells s1) e0 _ (A13.drew.only hG.only fun k => by have k' : gB = w.heap.size + 1 + 1 ∨ gB = w.heap.size + 1 + 1 + 1 := k; omega) Tryz.underlying45 rfl (by kernel_rfl) rfl ⟨rfl, ?_⟩)
      exact hK _ _ (hG.first (by decide) (by decide) rfl)
    · intro dn us w6 A hev hy hG hdn hdep K hK
      have e0 : A.eval (.tmp 3) = .pointer (some ⟨w.heap.size + 1, 0, none⟩) := by rw [hev]; rfl
      refine step_list (wpl_ld rfl 76 (.tmp 3) rfl (Walk.cells { x with phase := 2, curr := x.next / 2 }) e0 _ (B2.a1.drew.only hG.only fun k => by have k' : w.heap.size + 1 = w.heap.size + 1 + 1 ∨ w.heap.size + 1 = w.heap.size + 1 + 1 + 1 := k; omega) Tryz.underlying76 rfl (by kernel_rfl) rfl ⟨rfl, ?_⟩)
      exact hK _ _ (hG.first (by decide) (by decide) rfl)
    · intro dn us w6 A hev hy hG hdn hdep K hK
      have d1 : dn 1 = true := allD_mem hdep (by decide)
      have d2 : dn 2 = true := allD_mem hdep (by decide)
      have e0 : A.eval (.tmp 32) = ρ.val s1 := by rw [hev]; exact hG.pre 1 (by decide) (by decide) d1
      have e1 : A.eval (.tmp 33) = Walk.val { x with phase := 2, curr := x.next / 2 } := by rw [hev]; exact hG.pre 2 (by decide) (by decide) d2
      have ef : A.eval (.func 162) = .func (.func 162) #[] #[] := by rw [hev]; rfl
      rw [if_pos (by rfl)]
      unfold Oper.wp execOp
      generalize A.eval = ev at e0 e1 ef ⊢
      go_simp
      refine (rarrive_any { x with phase := 2, curr := x.next / 2 } _ (refin_only2 (R7.below ((Below.refl _ w7).drew)) hwl B2.a2.drew B2.a3.drew noTwo_zero17 (noTwo_walk _) (HRo.imp fun b e k => by have e' : b = w.heap.size + 1 + 1 ∨ b = w.heap.size + 1 + 1 + 1 := e; omega) hG.only) HZ1.out).mono ?_
      rintro e wq ⟨rfl, hb⟩
      exact hK _ _ (hG.called (by decide) (by decide) rfl hb)
    · intro dn us w6 A hev hy hG hdn hdep K hK
      have d0 : dn 0 = true := allD_mem hdep (by decide)
      have e0 : A.eval (.tmp 4) = .pointer (some ⟨w.heap.size + 1 + 1, 0, none⟩) := by rw [hev]; rfl
      have e1 : A.eval (.tmp 31) = .agg (ρ.cells s1) := by rw [hev]; exact hG.pre 0 (by decide) (by decide) d0
      refine step_list (wpl_st rfl 45 (.tmp 4) (.tmp 31) rfl (ρ.cells s1) e0 _ e1 (hG.old0 hdn) (by kernel_rfl) rfl rfl rfl fun w7 A7 O7 => ⟨rfl, ?_⟩)
      exact hK _ _ (hG.laid0 (by decide) n45 O7 A7 _)
    · intro dn us w6 A hev hy hG hdn hdep K hK
      have d3 : dn 3 = true := allD_mem hdep (by decide)
      have e0 : A.eval (.tmp 5) = .pointer (some ⟨w.heap.size + 1 + 1 + 1, 0, none⟩) := by rw [hev]; rfl
      have e1 : A.eval (.tmp 34) = .agg (Walk.cells (s1.arrive { x with phase := 2, curr := x.next / 2 } (x.next / 2))) := by rw [hev]; exact hG.pre 3 (by decide) (by decide) d3
      refine step_list (wpl_st rfl 76 (.tmp 5) (.tmp 34) rfl (Walk.cells (s1.arrive { x with phase := 2, curr := x.next / 2 } (x.next / 2))) e0 _ e1 (hG.old1 hdn) (by kernel_rfl) rfl rfl rfl fun w7 A7 O7 => ⟨rfl, ?_⟩)
      exact hK _ _ (hG.laid1 (by decide) n45 O7 A7 _)
    intro dn us wE hG hall
    have B4 := hG.out0 (hall 4 (by decide))
    have B5 := hG.out1 (hall 5 (by decide))
    have OE := hG.only
    simp only [fillA, fillT, Nat.reduceAdd]
    clear hG hall
    go_wp2_with fail
    have hBE := B2.under' OE
    exact bodyPost_ret (v := .tuple #[ρ.val s1, Walk.val (s1.arrive { x with phase := 2, curr := x.next / 2 } (x.next / 2))]) (res_cells (fn := Tryz.f91) Tryz.results91 _ _ (w.heap.size + 1 + 1) (w.heap.size + 1 + 1 + 1) _ _ _ _ rfl rfl B4 B5 Tryz.underlying45 rfl (by kernel_rfl) Tryz.underlying76 rfl (by kernel_rfl)) rfl ⟨ρ.w, by rw [HQ.out, ← HRE.out], by rw [HQ.out]; exact hW7.only ⟨OE.os, OE.tape, OE.output, OE.size, OE.block⟩ fun b o e _ k => k.elim (words_apart2 hW7 B2.a2 noTwo_zero17 hwl b o e) (words_apart2 hW7 B2.a3 (noTwo_walk _) hwl b o e), hBE, HFR.out⟩
end Go.Proofs.YtccmjljlfgbicaaGreat

