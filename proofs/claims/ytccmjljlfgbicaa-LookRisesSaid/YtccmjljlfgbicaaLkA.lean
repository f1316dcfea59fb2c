/- Contracts of look: the call of an operation, if it is an insert; is it in? Printed by lookgen.py. -/
import Derived.Test.YtccmjljlfgbicaaSeq
import Derived.Test.YtccmjljlfgbicaaOutG
import Derived.Test.YtccmjljlfgbicaaRegQ
namespace Go.Proofs.Ytccmjljlfgbicaa
open Go.ChangeShapes Go.WideShapes Go.ChangeAt Go.RowKit

abbrev GCall.c (c : GCall) : Array Value := #[.int .i64 c.kind, .int .u64 c.key, .int .u64 c.val, .int .i64 c.limit]
/-- Is an operation an insert? -/
def St.insertOf (s : St) (n : Int) : Bool := (s.callOf n).isSome && (s.call n).kind == 1
/-- Is an insert in? -/
def St.isIn (s : St) (n : Int) : Bool := s.insertOf n && s.peek (s.wordAt n) == 1
abbrev zc : Array Value := #[.int .i64 0, .int .u64 0, .int .u64 0, .int .i64 0]

set_option maxRecDepth 100000 in
set_option maxHeartbeats 4000000 in
theorem lcall_any {k : Blks} {s : St} (n : Int) (w : World) (h : Holds k s w) :
    Calls Try.prog 59 #[.pointer (some ⟨k.bw, 0, none⟩), .int .i64 n] w fun e w' => e = .returned (.tuple #[.agg (s.call n).c, .bool (s.insertOf n)]) ∧ Below w.heap.size w w' := by
  have H := Lib.hid h
  clear h
  have A40 := At.new w 28 zc
  have D0 : Below w.heap.size w (w.alloc (.cells zc 28)) := (Below.refl _ w).alloc (Nat.le_refl _) _
  have H0 := H.out.below D0
  obtain ⟨-, g5, g6, gl⟩ := H0.wfacts
  have HH := Lib.hid H0
  clear H0
  cases hc : (s.callOf n).isSome with
  | true =>
    have hq : s.insertOf n = ((s.call n).kind == 1) := by unfold St.insertOf; rw [hc]; rfl
    rw [hq]
    have HC := Lib.hid hc
    clear hq hc
    go_enter Try.func59, Try.ntmps59
    go_upto_region 1 with fail
    generalize w.alloc (.cells zc 28) = w0 at *
    have hcon := callof_any n w0 HH.out
    rw [HC.out] at hcon
    have HCN := Lib.hid hcon
    clear hcon
    go_wp2_with (first
      | (refine wpl_st rfl 28 _ _ rfl (s.call n).c rfl _ rfl (At.new w1 _ _) (by kernel_rfl) rfl rfl rfl ?_; intro w2 A6 O6)
      | (go_at_call 91; refine HCN.out.mono ?_; rintro e w1 ⟨rfl, hb1⟩))
    have D12 : Below w1.heap.size w1 w2 := ((Below.refl _ w1).alloc (Nat.le_refl _) _).trans (O6.below (by simp) fun j hj e => by have e' : j = w1.heap.size := e; omega)
    have A4 := (A40.below' hb1).below' D12
    have l0 := A40.lt
    have l1 := hb1.size
    have D2 : Below w.heap.size w w2 := D0.trans ((hb1.trans (D12.mono hb1.size)).mono (by omega))
    have nn : w.heap.size ≠ w1.heap.size := by omega
    refine wp_region_J (l := [_, _, _, _, _, _, _, _, _, _]) (OutG 8 99 28 28 w.heap.size w1.heap.size zc (s.call n).c (s.call n).c (s.call n).c (fun j v => match j with | 0 => v = .agg (s.call n).c | 1 => v = .int .i64 0 | 2 => v = .bool true | 3 => v = .bool true | 4 => v = .pointer (some ⟨w1.heap.size, 0, none⟩) | 5 => v = .int .i64 (s.call n).kind | 6 => v = .bool ((s.call n).kind == 1) | 7 => v = .bool ((s.call n).kind == 1) | 9 => v = .bool ((s.call n).kind == 1) | _ => True) w2.drew) (by kernel_rfl) (by kernel_rfl) (fun us => OutG.start us A4.drew A6.drew) ⟨?_, ?_, ?_, ?_, ?_, ?_, ?_, ?_, ?_, ?_, trivial⟩ ?_
    · intro dn us w6 A hev hy hG hdn hdep K hK
      have e0 : A.eval (.tmp 6) = .pointer (some ⟨w1.heap.size, 0, none⟩) := by rw [hev]; rfl
      refine step_list (wpl_ld rfl 28 (.tmp 6) rfl (s.call n).c e0 _ (by have := hG.a5; rwa [ite_self] at this) Try.underlying28 rfl (by kernel_rfl) rfl ⟨rfl, ?_⟩)
      exact hK _ _ (hG.first (by decide) (by decide) rfl)
    · intro dn us w6 A hev hy hG hdn hdep K hK
      have e0 : A.eval (.tmp 7) = .int .i64 0 := by rw [hev]; rfl
      rw [if_pos (by rfl)]
      unfold Oper.wp execOp
      generalize A.eval = ev at e0 ⊢
      go_simp
      exact hK _ _ (hG.first (by decide) (by decide) (by first | rfl | simp))
    · intro dn us w6 A hev hy hG hdn hdep K hK
      have d1 : dn 1 = true := allD_mem hdep (by decide)
      have e0 : A.eval (.tmp 18) = .int .i64 0 := by rw [hev]; exact hG.pre 1 (by decide) (by decide) d1
      have e1 : A.eval (.const (.int .i64 0)) = .int .i64 0 := by rw [hev]; rfl
      rw [if_pos (by rfl)]
      unfold Oper.wp execOp
      generalize A.eval = ev at e0 e1 ⊢
      go_simp
      exact hK _ _ (hG.first (by decide) (by decide) (by first | rfl | simp))
    · intro dn us w6 A hev hy hG hdn hdep K hK
      have d2 : dn 2 = true := allD_mem hdep (by decide)
      have e0 : A.eval (.tmp 19) = .bool true := by rw [hev]; exact hG.pre 2 (by decide) (by decide) d2
      rw [if_pos (by rfl)]
      unfold Oper.wp execOp
      generalize A.eval = ev at e0 ⊢
      go_simp
      exact hK _ _ (hG.first (by decide) (by decide) (by first | rfl | simp))
    · intro dn us w6 A hev hy hG hdn hdep K hK
      have d3 : dn 3 = true := allD_mem hdep (by decide)
      have e0 : A.eval (.tmp 6) = .pointer (some ⟨w1.heap.size, 0, none⟩) := by rw [hev]; rfl
      have hg : us 3 = .bool true := hG.pre 3 (by decide) (by decide) d3
      rw [if_pos (by rw [hy]; show ((match us 3 with | .bool b => some b | _ => none) == some true) = true; rw [hg]; rfl)]
      unfold Oper.wp execOp
      generalize A.eval = ev at e0 ⊢
      go_simp
      exact hK _ _ (hG.first (by decide) (by decide) (by first | rfl | simp))
    · intro dn us w6 A hev hy hG hdn hdep K hK
      have d3 : dn 3 = true := allD_mem hdep (by decide)
      have d4 : dn 4 = true := allD_mem hdep (by decide)
      have e0 : A.eval (.tmp 21) = .pointer (some ⟨w1.heap.size, 0, none⟩) := by rw [hev]; exact hG.pre 4 (by decide) (by decide) d4
      have cc0 : w6.cell? ⟨w1.heap.size, 0, none⟩ = some (.int .i64 (s.call n).kind) := by
        have h5 := hG.a5
        rw [ite_self] at h5
        exact h5.cell 0
      have hg : us 3 = .bool true := hG.pre 3 (by decide) (by decide) d3
      rw [if_pos (by rw [hy]; show ((match us 3 with | .bool b => some b | _ => none) == some true) = true; rw [hg]; rfl)]
      unfold Oper.wp execOp
      generalize A.eval = ev at e0 ⊢
      go_simp
      exact hK _ _ (hG.first (by decide) (by decide) (by first | rfl | simp))
    · intro dn us w6 A hev hy hG hdn hdep K hK
      have d3 : dn 3 = true := allD_mem hdep (by decide)
      have d5 : dn 5 = true := allD_mem hdep (by decide)
      have e0 : A.eval (.tmp 22) = .int .i64 (s.call n).kind := by rw [hev]; exact hG.pre 5 (by decide) (by decide) d5
      have e1 : A.eval (.const (.int .i64 1)) = .int .i64 1 := by rw [hev]; rfl
      have hg : us 3 = .bool true := hG.pre 3 (by decide) (by decide) d3
      rw [if_pos (by rw [hy]; show ((match us 3 with | .bool b => some b | _ => none) == some true) = true; rw [hg]; rfl)]
      unfold Oper.wp execOp
      generalize A.eval = ev at e0 e1 ⊢
      go_simp
      exact hK _ _ (hG.first (by decide) (by decide) (by first | rfl | simp))
    · intro dn us w6 A hev hy hG hdn hdep K hK
      have d3 : dn 3 = true := allD_mem hdep (by decide)
      have d6 : dn 6 = true := allD_mem hdep (by decide)
      have e0 : A.eval (.tmp 20) = .bool true := by rw [hev]; exact hG.pre 3 (by decide) (by decide) d3
      have e1 : A.eval (.tmp 23) = .bool ((s.call n).kind == 1) := by rw [hev]; exact hG.pre 6 (by decide) (by decide) d6
      have e2 : A.eval (.const (.bool false)) = .bool false := by rw [hev]; rfl
      rw [if_pos (by rfl)]
      unfold Oper.wp execOp
      generalize A.eval = ev at e0 e1 e2 ⊢
      go_simp
      exact hK _ _ (hG.first (by decide) (by decide) (by first | rfl | simp))
    · intro dn us w6 A hev hy hG hdn hdep K hK
      have d0 : dn 0 = true := allD_mem hdep (by decide)
      have e0 : A.eval (.tmp 4) = .pointer (some ⟨w.heap.size, 0, none⟩) := by rw [hev]; rfl
      have e1 : A.eval (.tmp 17) = .agg (s.call n).c := by rw [hev]; exact hG.pre 0 (by decide) (by decide) d0
      refine step_list (wpl_st rfl 28 (.tmp 4) (.tmp 17) rfl (s.call n).c e0 _ e1 (hG.old0 hdn) (by kernel_rfl) rfl rfl rfl fun w7 A7 O7 => ⟨rfl, ?_⟩)
      exact hK _ _ (hG.laid0 (by decide) nn O7 A7 _)
    · intro dn us w6 A hev hy hG hdn hdep K hK
      have d7 : dn 7 = true := allD_mem hdep (by decide)
      have e0 : A.eval (.tmp 24) = .bool ((s.call n).kind == 1) := by rw [hev]; exact hG.pre 7 (by decide) (by decide) d7
      rw [if_pos (by rfl)]
      unfold Oper.wp execOp
      generalize A.eval = ev at e0 ⊢
      go_simp
      exact hK _ _ (hG.first (by decide) (by decide) (by first | rfl | simp))
    intro dn us w7 hG hall
    have A7 := hG.out0 (hall 8 (by decide))
    have O7 := hG.only
    have u9 : us 9 = .bool ((s.call n).kind == 1) := hG.pre 9 (by decide) (by decide) (hall 9 (by decide))
    have D7 : Below w.heap.size w w7 := (show Below w.heap.size w w2.drew from D2.drew).trans (O7.below D2.size fun j hj e => by have e' : j = w.heap.size ∨ j = w1.heap.size := e; omega)
    simp only [fillA, fillT, Nat.reduceAdd, List.setIfInBounds_toArray, List.set_cons_zero, List.set_cons_succ, u9]
    clear hG hall u9
    go_wp2_with fail
    exact bodyPost_ret (v := .tuple #[.agg (s.call n).c, .bool ((s.call n).kind == 1)]) (res_cell_tmp (fn := Try.f59) Try.results59 _ _ w.heap.size _ _ rfl A7 Try.underlying28 rfl (by kernel_rfl)) rfl ⟨rfl, D7⟩
  | false =>
    have hq : s.insertOf n = false := by unfold St.insertOf; rw [hc]; rfl
    rw [hq]
    have HC := Lib.hid hc
    clear hq hc
    go_enter Try.func59, Try.ntmps59
    go_upto_region 1 with fail
    generalize w.alloc (.cells zc 28) = w0 at *
    have hcon := callof_any n w0 HH.out
    rw [HC.out] at hcon
    have HCN := Lib.hid hcon
    clear hcon
    go_wp2_with (first
      | (refine wpl_st rfl 28 _ _ rfl (s.call n).c rfl _ rfl (At.new w1 _ _) (by kernel_rfl) rfl rfl rfl ?_; intro w2 A6 O6)
      | (go_at_call 91; refine HCN.out.mono ?_; rintro e w1 ⟨rfl, hb1⟩))
    have D12 : Below w1.heap.size w1 w2 := ((Below.refl _ w1).alloc (Nat.le_refl _) _).trans (O6.below (by simp) fun j hj e => by have e' : j = w1.heap.size := e; omega)
    have A4 := (A40.below' hb1).below' D12
    have l0 := A40.lt
    have l1 := hb1.size
    have D2 : Below w.heap.size w w2 := D0.trans ((hb1.trans (D12.mono hb1.size)).mono (by omega))
    have nn : w.heap.size ≠ w1.heap.size := by omega
    refine wp_region_J (l := [_, _, _, _, _, _, _, _, _, _]) (OutG 8 99 28 28 w.heap.size w1.heap.size zc (s.call n).c (s.call n).c (s.call n).c (fun j v => match j with | 0 => v = .agg (s.call n).c | 1 => v = .int .i64 4 | 2 => v = .bool false | 3 => v = .bool false | 7 => v = .bool false | 9 => v = .bool false | _ => True) w2.drew) (by kernel_rfl) (by kernel_rfl) (fun us => OutG.start us A4.drew A6.drew) ⟨?_, ?_, ?_, ?_, ?_, ?_, ?_, ?_, ?_, ?_, trivial⟩ ?_
    · intro dn us w6 A hev hy hG hdn hdep K hK
      have e0 : A.eval (.tmp 6) = .pointer (some ⟨w1.heap.size, 0, none⟩) := by rw [hev]; rfl
      refine step_list (wpl_ld rfl 28 (.tmp 6) rfl (s.call n).c e0 _ (by have := hG.a5; rwa [ite_self] at this) Try.underlying28 rfl (by kernel_rfl) rfl ⟨rfl, ?_⟩)
      exact hK _ _ (hG.first (by decide) (by decide) rfl)
    · intro dn us w6 A hev hy hG hdn hdep K hK
      have e0 : A.eval (.tmp 7) = .int .i64 4 := by rw [hev]; rfl
      rw [if_pos (by rfl)]
      unfold Oper.wp execOp
      generalize A.eval = ev at e0 ⊢
      go_simp
      exact hK _ _ (hG.first (by decide) (by decide) (by first | rfl | simp))
    · intro dn us w6 A hev hy hG hdn hdep K hK
      have d1 : dn 1 = true := allD_mem hdep (by decide)
      have e0 : A.eval (.tmp 18) = .int .i64 4 := by rw [hev]; exact hG.pre 1 (by decide) (by decide) d1
      have e1 : A.eval (.const (.int .i64 0)) = .int .i64 0 := by rw [hev]; rfl
      rw [if_pos (by rfl)]
      unfold Oper.wp execOp
      generalize A.eval = ev at e0 e1 ⊢
      go_simp
      exact hK _ _ (hG.first (by decide) (by decide) (by first | rfl | simp))
    · intro dn us w6 A hev hy hG hdn hdep K hK
      have d2 : dn 2 = true := allD_mem hdep (by decide)
      have e0 : A.eval (.tmp 19) = .bool false := by rw [hev]; exact hG.pre 2 (by decide) (by decide) d2
      rw [if_pos (by rfl)]
      unfold Oper.wp execOp
      generalize A.eval = ev at e0 ⊢
      go_simp
      exact hK _ _ (hG.first (by decide) (by decide) (by first | rfl | simp))
    · intro dn us w6 A hev hy hG hdn hdep K hK
      have d3 : dn 3 = true := allD_mem hdep (by decide)
      have hg : us 3 = .bool false := hG.pre 3 (by decide) (by decide) d3
      rw [if_neg (by rw [hy]; show ¬ ((match us 3 with | .bool b => some b | _ => none) == some true) = true; rw [hg]; decide)]
      exact hK _ _ (hG.first (by decide) (by decide) trivial)
    · intro dn us w6 A hev hy hG hdn hdep K hK
      have d3 : dn 3 = true := allD_mem hdep (by decide)
      have cc0 : w6.cell? ⟨w1.heap.size, 0, none⟩ = some (.int .i64 (s.call n).kind) := by
        have h5 := hG.a5
        rw [ite_self] at h5
        exact h5.cell 0
      have hg : us 3 = .bool false := hG.pre 3 (by decide) (by decide) d3
      rw [if_neg (by rw [hy]; show ¬ ((match us 3 with | .bool b => some b | _ => none) == some true) = true; rw [hg]; decide)]
      exact hK _ _ (hG.first (by decide) (by decide) trivial)
    · intro dn us w6 A hev hy hG hdn hdep K hK
      have d3 : dn 3 = true := allD_mem hdep (by decide)
      have e0 : A.eval (.const (.int .i64 1)) = .int .i64 1 := by rw [hev]; rfl
      have hg : us 3 = .bool false := hG.pre 3 (by decide) (by decide) d3
      rw [if_neg (by rw [hy]; show ¬ ((match us 3 with | .bool b => some b | _ => none) == some true) = true; rw [hg]; decide)]
      exact hK _ _ (hG.first (by decide) (by decide) trivial)
    · intro dn us w6 A hev hy hG hdn hdep K hK
      have d3 : dn 3 = true := allD_mem hdep (by decide)
      have e0 : A.eval (.tmp 20) = .bool false := by rw [hev]; exact hG.pre 3 (by decide) (by decide) d3
      have e1 : A.eval (.const (.bool false)) = .bool false := by rw [hev]; rfl
      rw [if_pos (by rfl)]
      unfold Oper.wp execOp
      generalize A.eval = ev at e0 e1 ⊢
      go_simp
      exact hK _ _ (hG.first (by decide) (by decide) (by first | rfl | simp))
    · intro dn us w6 A hev hy hG hdn hdep K hK
      have d0 : dn 0 = true := allD_mem hdep (by decide)
      have e0 : A.eval (.tmp 4) = .pointer (some ⟨w.heap.size, 0, none⟩) := by rw [hev]; rfl
      have e1 : A.eval (.tmp 17) = .agg (s.call n).c := by rw [hev]; exact hG.pre 0 (by decide) (by decide) d0
      refine step_list (wpl_st rfl 28 (.tmp 4) (.tmp 17) rfl (s.call n).c e0 _ e1 (hG.old0 hdn) (by kernel_rfl) rfl rfl rfl fun w7 A7 O7 => ⟨rfl, ?_⟩)
      exact hK _ _ (hG.laid0 (by decide) nn O7 A7 _)
    · intro dn us w6 A hev hy hG hdn hdep K hK
      have d7 : dn 7 = true := allD_mem hdep (by decide)
      have e0 : A.eval (.tmp 24) = .bool false := by rw [hev]; exact hG.pre 7 (by decide) (by decide) d7
      rw [if_pos (by rfl)]
      unfold Oper.wp execOp
      generalize A.eval = ev at e0 ⊢
      go_simp
      exact hK _ _ (hG.first (by decide) (by decide) (by first | rfl | simp))
    intro dn us w7 hG hall
    have A7 := hG.out0 (hall 8 (by decide))
    have O7 := hG.only
    have u9 : us 9 = .bool false := hG.pre 9 (by decide) (by decide) (hall 9 (by decide))
    have D7 : Below w.heap.size w w7 := (show Below w.heap.size w w2.drew from D2.drew).trans (O7.below D2.size fun j hj e => by have e' : j = w.heap.size ∨ j = w1.heap.size := e; omega)
    simp only [fillA, fillT, Nat.reduceAdd, List.setIfInBounds_toArray, List.set_cons_zero, List.set_cons_succ, u9]
    clear hG hall u9
    go_wp2_with fail
    exact bodyPost_ret (v := .tuple #[.agg (s.call n).c, .bool (false)]) (res_cell_tmp (fn := Try.f59) Try.results59 _ _ w.heap.size _ _ rfl A7 Try.underlying28 rfl (by kernel_rfl)) rfl ⟨rfl, D7⟩

set_option maxRecDepth 100000 in
set_option maxHeartbeats 4000000 in
theorem lin_any {k : Blks} {s : St} (n : Int) (w : World) (h : Holds k s w) :
    Calls Try.prog 58 #[.pointer (some ⟨k.bw, 0, none⟩), .int .i64 n] w fun e w' => e = .returned (.bool (s.isIn n)) ∧ Below w.heap.size w w' := by
  have H := Lib.hid h
  have HM := Lib.hid h.ok.may
  cases hi : s.insertOf n with
  | true =>
    have hq : s.isIn n = (s.peek (s.wordAt n) == 1) := by unfold St.isIn; rw [hi]; rfl
    rw [hq]
    have hcon := lcall_any n w h
    rw [hi] at hcon
    have HCN := Lib.hid hcon
    clear hcon h hi hq
    go_enter Try.func58, Try.ntmps58
    go_wp2_with (first
      | (refine wpl_st rfl 28 _ _ rfl (s.call n).c rfl _ rfl (At.new w1 _ _) (by kernel_rfl) rfl rfl rfl ?_; intro w2 A6 O6)
      | (go_at_call 59; refine HCN.out.mono ?_; rintro e w1 ⟨rfl, hb1⟩))
    have D12 : Below w1.heap.size w1 w2 := ((Below.refl _ w1).alloc (Nat.le_refl _) _).trans (O6.below (by simp) fun j hj e => by have e' : j = w1.heap.size := e; omega)
    have D2 := hb1.trans (D12.mono hb1.size)
    have HB := Lib.hid (H.out.below D2)
    obtain ⟨⟨g0, g1, g2, g3, g4⟩, g5, g6, gl⟩ := HB.out.wfacts
    refine wp_region_J (l := [_, _, _, _, _, _, _, _, _, _, _, _, _, _, _, _]) (QG (fun j v => match j with | 0 => v = .bool true | 1 => v = .bool true | 2 => v = .pointer (some ⟨k.bw, 0, none⟩) | 3 => v = .pointer (some ⟨k.bw, 0, none⟩) | 4 => v = .pointer (some ⟨k.bw, 5, none⟩) | 5 => v = .pointer (some ⟨k.bc, 0, none⟩) | 6 => v = .pointer (some ⟨k.bw, 0, none⟩) | 7 => v = .pointer (some ⟨k.bw, 0, none⟩) | 8 => v = .pointer (some ⟨k.bw, 0, none⟩) | 9 => v = s.c.val | 10 => v = .int .i64 n | 11 => v = .int .i64 (s.wordAt n) | 12 => v = .int .u64 (s.peek (s.wordAt n)) | 13 => v = .bool (s.peek (s.wordAt n) == 1) | 14 => v = .bool (s.peek (s.wordAt n) == 1) | 15 => v = .bool (s.peek (s.wordAt n) == 1) | _ => True) w2) (by kernel_rfl) (by kernel_rfl) (fun us => QG.start us) ⟨?_, ?_, ?_, ?_, ?_, ?_, ?_, ?_, ?_, ?_, ?_, ?_, ?_, ?_, ?_, ?_, trivial⟩ ?_
    · intro dn us w6 A hev hy hG hdn hdep K hK
      have e0 : A.eval (.tmp 6) = .bool true := by rw [hev]; rfl
      rw [if_pos (by rfl)]
      unfold Oper.wp execOp
      generalize A.eval = ev at e0 ⊢
      go_simp
      exact hK _ _ (hG.first (by first | rfl | simp))
    · intro dn us w6 A hev hy hG hdn hdep K hK
      have d0 : dn 0 = true := allD_mem hdep (by decide)
      have e0 : A.eval (.tmp 13) = .bool true := by rw [hev]; exact hG.pre 0 d0
      rw [if_pos (by rfl)]
      unfold Oper.wp execOp
      generalize A.eval = ev at e0 ⊢
      go_simp
      exact hK _ _ (hG.first (by first | rfl | simp))
    · intro dn us w6 A hev hy hG hdn hdep K hK
      have d1 : dn 1 = true := allD_mem hdep (by decide)
      have e0 : A.eval (.tmp 0) = .pointer (some ⟨k.bw, 0, none⟩) := by rw [hev]; rfl
      have hg : us 1 = .bool true := hG.pre 1 d1
      rw [if_pos (by rw [hy]; show ((match us 1 with | .bool b => some b | _ => none) == some true) = true; rw [hg]; rfl)]
      unfold Oper.wp execOp
      generalize A.eval = ev at e0 ⊢
      go_simp
      exact hK _ _ (hG.first (by first | rfl | simp))
    · intro dn us w6 A hev hy hG hdn hdep K hK
      have d1 : dn 1 = true := allD_mem hdep (by decide)
      have d2 : dn 2 = true := allD_mem hdep (by decide)
      have e0 : A.eval (.tmp 15) = .pointer (some ⟨k.bw, 0, none⟩) := by rw [hev]; exact hG.pre 2 d2
      have hg : us 1 = .bool true := hG.pre 1 d1
      rw [if_pos (by rw [hy]; show ((match us 1 with | .bool b => some b | _ => none) == some true) = true; rw [hg]; rfl)]
      unfold Oper.wp execOp
      generalize A.eval = ev at e0 ⊢
      go_simp
      exact hK _ _ (hG.first (by first | rfl | simp))
    · intro dn us w6 A hev hy hG hdn hdep K hK
      have d1 : dn 1 = true := allD_mem hdep (by decide)
      have d3 : dn 3 = true := allD_mem hdep (by decide)
      have e0 : A.eval (.tmp 16) = .pointer (some ⟨k.bw, 0, none⟩) := by rw [hev]; exact hG.pre 3 d3
      have hg : us 1 = .bool true := hG.pre 1 d1
      rw [if_pos (by rw [hy]; show ((match us 1 with | .bool b => some b | _ => none) == some true) = true; rw [hg]; rfl)]
      unfold Oper.wp execOp
      generalize A.eval = ev at e0 ⊢
      go_simp
      exact hK _ _ (hG.first (by first | rfl | simp))
    · intro dn us w6 A hev hy hG hdn hdep K hK
      have d1 : dn 1 = true := allD_mem hdep (by decide)
      have d4 : dn 4 = true := allD_mem hdep (by decide)
      have e0 : A.eval (.tmp 17) = .pointer (some ⟨k.bw, 5, none⟩) := by rw [hev]; exact hG.pre 4 d4
      have cc0 : w6.cell? ⟨k.bw, 5, none⟩ = some (.pointer (some ⟨k.bc, 0, none⟩)) := by rw [hG.below.cell gl]; exact g5
      have hg : us 1 = .bool true := hG.pre 1 d1
      rw [if_pos (by rw [hy]; show ((match us 1 with | .bool b => some b | _ => none) == some true) = true; rw [hg]; rfl)]
      unfold Oper.wp execOp
      generalize A.eval = ev at e0 ⊢
      go_simp
      exact hK _ _ (hG.first (by first | rfl | simp))
    · intro dn us w6 A hev hy hG hdn hdep K hK
      have d1 : dn 1 = true := allD_mem hdep (by decide)
      have e0 : A.eval (.tmp 0) = .pointer (some ⟨k.bw, 0, none⟩) := by rw [hev]; rfl
      have hg : us 1 = .bool true := hG.pre 1 d1
      rw [if_pos (by rw [hy]; show ((match us 1 with | .bool b => some b | _ => none) == some true) = true; rw [hg]; rfl)]
      unfold Oper.wp execOp
      generalize A.eval = ev at e0 ⊢
      go_simp
      exact hK _ _ (hG.first (by first | rfl | simp))
    · intro dn us w6 A hev hy hG hdn hdep K hK
      have d1 : dn 1 = true := allD_mem hdep (by decide)
      have d6 : dn 6 = true := allD_mem hdep (by decide)
      have e0 : A.eval (.tmp 19) = .pointer (some ⟨k.bw, 0, none⟩) := by rw [hev]; exact hG.pre 6 d6
      have hg : us 1 = .bool true := hG.pre 1 d1
      rw [if_pos (by rw [hy]; show ((match us 1 with | .bool b => some b | _ => none) == some true) = true; rw [hg]; rfl)]
      unfold Oper.wp execOp
      generalize A.eval = ev at e0 ⊢
      go_simp
      exact hK _ _ (hG.first (by first | rfl | simp))
    · intro dn us w6 A hev hy hG hdn hdep K hK
      have d1 : dn 1 = true := allD_mem hdep (by decide)
      have d7 : dn 7 = true := allD_mem hdep (by decide)
      have e0 : A.eval (.tmp 20) = .pointer (some ⟨k.bw, 0, none⟩) := by rw [hev]; exact hG.pre 7 d7
      have hg : us 1 = .bool true := hG.pre 1 d1
      rw [if_pos (by rw [hy]; show ((match us 1 with | .bool b => some b | _ => none) == some true) = true; rw [hg]; rfl)]
      unfold Oper.wp execOp
      generalize A.eval = ev at e0 ⊢
      go_simp
      exact hK _ _ (hG.first (by first | rfl | simp))
    · intro dn us w6 A hev hy hG hdn hdep K hK
      have d1 : dn 1 = true := allD_mem hdep (by decide)
      have d8 : dn 8 = true := allD_mem hdep (by decide)
      have e0 : A.eval (.tmp 21) = .pointer (some ⟨k.bw, 0, none⟩) := by rw [hev]; exact hG.pre 8 d8
      have h6 := hG.below
      have cc0 : w6.cell? ⟨k.bw, 0, none⟩ = some (.int .i64 s.c.threads) := by rw [h6.cell gl]; exact g0
      have cc1 : w6.cell? ⟨k.bw, 1, none⟩ = some (.int .i64 s.c.buckets) := by rw [h6.cell gl]; exact g1
      have cc2 : w6.cell? ⟨k.bw, 2, none⟩ = some (.int .i64 s.c.inserts) := by rw [h6.cell gl]; exact g2
      have cc3 : w6.cell? ⟨k.bw, 3, none⟩ = some (.int .i64 s.c.fuel) := by rw [h6.cell gl]; exact g3
      have cc4 : w6.cell? ⟨k.bw, 4, none⟩ = some (.int .i64 s.c.calls) := by rw [h6.cell gl]; exact g4
      have hg : us 1 = .bool true := hG.pre 1 d1
      rw [if_pos (by rw [hy]; show ((match us 1 with | .bool b => some b | _ => none) == some true) = true; rw [hg]; rfl)]
      unfold Oper.wp execOp
      generalize A.eval = ev at e0 ⊢
      go_simp
      exact hK _ _ (hG.first (by first | rfl | simp))
    · intro dn us w6 A hev hy hG hdn hdep K hK
      have d1 : dn 1 = true := allD_mem hdep (by decide)
      have e0 : A.eval (.tmp 1) = .int .i64 n := by rw [hev]; rfl
      have hg : us 1 = .bool true := hG.pre 1 d1
      rw [if_pos (by rw [hy]; show ((match us 1 with | .bool b => some b | _ => none) == some true) = true; rw [hg]; rfl)]
      unfold Oper.wp execOp
      generalize A.eval = ev at e0 ⊢
      go_simp
      exact hK _ _ (hG.first (by first | rfl | simp))
    · intro dn us w6 A hev hy hG hdn hdep K hK
      have d1 : dn 1 = true := allD_mem hdep (by decide)
      have d9 : dn 9 = true := allD_mem hdep (by decide)
      have d10 : dn 10 = true := allD_mem hdep (by decide)
      have e0 : A.eval (.tmp 22) = s.c.val := by rw [hev]; exact hG.pre 9 d9
      have e1 : A.eval (.tmp 23) = .int .i64 n := by rw [hev]; exact hG.pre 10 d10
      have ef : A.eval (.func 40) = .func (.func 40) #[] #[] := by rw [hev]; rfl
      have hg : us 1 = .bool true := hG.pre 1 d1
      rw [if_pos (by rw [hy]; show ((match us 1 with | .bool b => some b | _ => none) == some true) = true; rw [hg]; rfl)]
      unfold Oper.wp execOp
      generalize A.eval = ev at e0 e1 ef ⊢
      go_simp
      refine (word_any s.c n _ HM.out).mono ?_
      rintro e wq ⟨rfl, hb⟩
      exact hK _ _ (hG.called rfl hb)
    · intro dn us w6 A hev hy hG hdn hdep K hK
      have d1 : dn 1 = true := allD_mem hdep (by decide)
      have d5 : dn 5 = true := allD_mem hdep (by decide)
      have d11 : dn 11 = true := allD_mem hdep (by decide)
      have e0 : A.eval (.tmp 18) = .pointer (some ⟨k.bc, 0, none⟩) := by rw [hev]; exact hG.pre 5 d5
      have e1 : A.eval (.tmp 24) = .int .i64 (s.wordAt n) := by rw [hev]; exact hG.pre 11 d11
      have ef : A.eval (.func 32) = .func (.func 32) #[] #[] := by rw [hev]; rfl
      have hg : us 1 = .bool true := hG.pre 1 d1
      rw [if_pos (by rw [hy]; show ((match us 1 with | .bool b => some b | _ => none) == some true) = true; rw [hg]; rfl)]
      unfold Oper.wp execOp
      generalize A.eval = ev at e0 e1 ef ⊢
      go_simp
      refine (peek_any (s.wordAt n) _ (HB.out.cells.below hG.below)).mono ?_
      rintro e wq ⟨rfl, rfl⟩
      exact hK _ _ (hG.first rfl)
    · intro dn us w6 A hev hy hG hdn hdep K hK
      have d1 : dn 1 = true := allD_mem hdep (by decide)
      have d12 : dn 12 = true := allD_mem hdep (by decide)
      have e0 : A.eval (.tmp 25) = .int .u64 (s.peek (s.wordAt n)) := by rw [hev]; exact hG.pre 12 d12
      have e1 : A.eval (.const (.int .u64 1)) = .int .u64 1 := by rw [hev]; rfl
      have hg : us 1 = .bool true := hG.pre 1 d1
      rw [if_pos (by rw [hy]; show ((match us 1 with | .bool b => some b | _ => none) == some true) = true; rw [hg]; rfl)]
      unfold Oper.wp execOp
      generalize A.eval = ev at e0 e1 ⊢
      go_simp
      exact hK _ _ (hG.first (by first | rfl | simp))
    · intro dn us w6 A hev hy hG hdn hdep K hK
      have d1 : dn 1 = true := allD_mem hdep (by decide)
      have d13 : dn 13 = true := allD_mem hdep (by decide)
      have e0 : A.eval (.tmp 14) = .bool true := by rw [hev]; exact hG.pre 1 d1
      have e1 : A.eval (.tmp 26) = .bool (s.peek (s.wordAt n) == 1) := by rw [hev]; exact hG.pre 13 d13
      have e2 : A.eval (.const (.bool false)) = .bool false := by rw [hev]; rfl
      rw [if_pos (by rfl)]
      unfold Oper.wp execOp
      generalize A.eval = ev at e0 e1 e2 ⊢
      go_simp
      exact hK _ _ (hG.first (by first | rfl | simp))
    · intro dn us w6 A hev hy hG hdn hdep K hK
      have d14 : dn 14 = true := allD_mem hdep (by decide)
      have e0 : A.eval (.tmp 27) = .bool (s.peek (s.wordAt n) == 1) := by rw [hev]; exact hG.pre 14 d14
      rw [if_pos (by rfl)]
      unfold Oper.wp execOp
      generalize A.eval = ev at e0 ⊢
      go_simp
      exact hK _ _ (hG.first (by first | rfl | simp))
    intro dn us w6 hG hall
    have u15 : us 15 = .bool (s.peek (s.wordAt n) == 1) := hG.pre 15 (hall 15 (by decide))
    have hb6 := hG.below
    simp only [fillA, fillT, Nat.reduceAdd, List.setIfInBounds_toArray, List.set_cons_zero, List.set_cons_succ, u15]
    clear hG hall u15
    go_wp2_with fail
    go_ret
    exact ⟨rfl, D2.trans (hb6.mono D2.size)⟩
  | false =>
    have hq : s.isIn n = false := by unfold St.isIn; rw [hi]; rfl
    rw [hq]
    have hcon := lcall_any n w h
    rw [hi] at hcon
    have HCN := Lib.hid hcon
    clear hcon h hi hq
    go_enter Try.func58, Try.ntmps58
    go_wp2_with (first
      | (refine wpl_st rfl 28 _ _ rfl (s.call n).c rfl _ rfl (At.new w1 _ _) (by kernel_rfl) rfl rfl rfl ?_; intro w2 A6 O6)
      | (go_at_call 59; refine HCN.out.mono ?_; rintro e w1 ⟨rfl, hb1⟩))
    have D12 : Below w1.heap.size w1 w2 := ((Below.refl _ w1).alloc (Nat.le_refl _) _).trans (O6.below (by simp) fun j hj e => by have e' : j = w1.heap.size := e; omega)
    have D2 := hb1.trans (D12.mono hb1.size)
    have HB := Lib.hid (H.out.below D2)
    obtain ⟨⟨g0, g1, g2, g3, g4⟩, g5, g6, gl⟩ := HB.out.wfacts
    refine wp_region_J (l := [_, _, _, _, _, _, _, _, _, _, _, _, _, _, _, _]) (QG (fun j v => match j with | 0 => v = .bool false | 1 => v = .bool false | 14 => v = .bool false | 15 => v = .bool false | _ => True) w2) (by kernel_rfl) (by kernel_rfl) (fun us => QG.start us) ⟨?_, ?_, ?_, ?_, ?_, ?_, ?_, ?_, ?_, ?_, ?_, ?_, ?_, ?_, ?_, ?_, trivial⟩ ?_
    · intro dn us w6 A hev hy hG hdn hdep K hK
      have e0 : A.eval (.tmp 6) = .bool false := by rw [hev]; rfl
      rw [if_pos (by rfl)]
      unfold Oper.wp execOp
      generalize A.eval = ev at e0 ⊢
      go_simp
      exact hK _ _ (hG.first (by first | rfl | simp))
    · intro dn us w6 A hev hy hG hdn hdep K hK
      have d0 : dn 0 = true := allD_mem hdep (by decide)
      have e0 : A.eval (.tmp 13) = .bool false := by rw [hev]; exact hG.pre 0 d0
      rw [if_pos (by rfl)]
      unfold Oper.wp execOp
      generalize A.eval = ev at e0 ⊢
      go_simp
      exact hK _ _ (hG.first (by first | rfl | simp))
    · intro dn us w6 A hev hy hG hdn hdep K hK
      have d1 : dn 1 = true := allD_mem hdep (by decide)
      have hg : us 1 = .bool false := hG.pre 1 d1
      rw [if_neg (by rw [hy]; show ¬ ((match us 1 with | .bool b => some b | _ => none) == some true) = true; rw [hg]; decide)]
      exact hK _ _ (hG.first trivial)
    · intro dn us w6 A hev hy hG hdn hdep K hK
      have d1 : dn 1 = true := allD_mem hdep (by decide)
      have hg : us 1 = .bool false := hG.pre 1 d1
      rw [if_neg (by rw [hy]; show ¬ ((match us 1 with | .bool b => some b | _ => none) == some true) = true; rw [hg]; decide)]
      exact hK _ _ (hG.first trivial)
    · intro dn us w6 A hev hy hG hdn hdep K hK
      have d1 : dn 1 = true := allD_mem hdep (by decide)
      have hg : us 1 = .bool false := hG.pre 1 d1
      rw [if_neg (by rw [hy]; show ¬ ((match us 1 with | .bool b => some b | _ => none) == some true) = true; rw [hg]; decide)]
      exact hK _ _ (hG.first trivial)
    · intro dn us w6 A hev hy hG hdn hdep K hK
      have d1 : dn 1 = true := allD_mem hdep (by decide)
      have cc0 : w6.cell? ⟨k.bw, 5, none⟩ = some (.pointer (some ⟨k.bc, 0, none⟩)) := by rw [hG.below.cell gl]; exact g5
      have hg : us 1 = .bool false := hG.pre 1 d1
      rw [if_neg (by rw [hy]; show ¬ ((match us 1 with | .bool b => some b | _ => none) == some true) = true; rw [hg]; decide)]
      exact hK _ _ (hG.first trivial)
    · intro dn us w6 A hev hy hG hdn hdep K hK
      have d1 : dn 1 = true := allD_mem hdep (by decide)
      have hg : us 1 = .bool false := hG.pre 1 d1
      rw [if_neg (by rw [hy]; show ¬ ((match us 1 with | .bool b => some b | _ => none) == some true) = true; rw [hg]; decide)]
      exact hK _ _ (hG.first trivial)
    · intro dn us w6 A hev hy hG hdn hdep K hK
      have d1 : dn 1 = true := allD_mem hdep (by decide)
      have hg : us 1 = .bool false := hG.pre 1 d1
      rw [if_neg (by rw [hy]; show ¬ ((match us 1 with | .bool b => some b | _ => none) == some true) = true; rw [hg]; decide)]
      exact hK _ _ (hG.first trivial)
    · intro dn us w6 A hev hy hG hdn hdep K hK
      have d1 : dn 1 = true := allD_mem hdep (by decide)
      have hg : us 1 = .bool false := hG.pre 1 d1
      rw [if_neg (by rw [hy]; show ¬ ((match us 1 with | .bool b => some b | _ => none) == some true) = true; rw [hg]; decide)]
      exact hK _ _ (hG.first trivial)
    · intro dn us w6 A hev hy hG hdn hdep K hK
      have d1 : dn 1 = true := allD_mem hdep (by decide)
      have h6 := hG.below
      have cc0 : w6.cell? ⟨k.bw, 0, none⟩ = some (.int .i64 s.c.threads) := by rw [h6.cell gl]; exact g0
      have cc1 : w6.cell? ⟨k.bw, 1, none⟩ = some (.int .i64 s.c.buckets) := by rw [h6.cell gl]; exact g1
      have cc2 : w6.cell? ⟨k.bw, 2, none⟩ = some (.int .i64 s.c.inserts) := by rw [h6.cell gl]; exact g2
      have cc3 : w6.cell? ⟨k.bw, 3, none⟩ = some (.int .i64 s.c.fuel) := by rw [h6.cell gl]; exact g3
      have cc4 : w6.cell? ⟨k.bw, 4, none⟩ = some (.int .i64 s.c.calls) := by rw [h6.cell gl]; exact g4
      have hg : us 1 = .bool false := hG.pre 1 d1
      rw [if_neg (by rw [hy]; show ¬ ((match us 1 with | .bool b => some b | _ => none) == some true) = true; rw [hg]; decide)]
      exact hK _ _ (hG.first trivial)
    · intro dn us w6 A hev hy hG hdn hdep K hK
      have d1 : dn 1 = true := allD_mem hdep (by decide)
      have hg : us 1 = .bool false := hG.pre 1 d1
      rw [if_neg (by rw [hy]; show ¬ ((match us 1 with | .bool b => some b | _ => none) == some true) = true; rw [hg]; decide)]
      exact hK _ _ (hG.first trivial)
    · intro dn us w6 A hev hy hG hdn hdep K hK
      have d1 : dn 1 = true := allD_mem hdep (by decide)
      have ef : A.eval (.func 40) = .func (.func 40) #[] #[] := by rw [hev]; rfl
      have hg : us 1 = .bool false := hG.pre 1 d1
      rw [if_neg (by rw [hy]; show ¬ ((match us 1 with | .bool b => some b | _ => none) == some true) = true; rw [hg]; decide)]
      exact hK _ _ (hG.first trivial)
    · intro dn us w6 A hev hy hG hdn hdep K hK
      have d1 : dn 1 = true := allD_mem hdep (by decide)
      have ef : A.eval (.func 32) = .func (.func 32) #[] #[] := by rw [hev]; rfl
      have hg : us 1 = .bool false := hG.pre 1 d1
      rw [if_neg (by rw [hy]; show ¬ ((match us 1 with | .bool b => some b | _ => none) == some true) = true; rw [hg]; decide)]
      exact hK _ _ (hG.first trivial)
    · intro dn us w6 A hev hy hG hdn hdep K hK
      have d1 : dn 1 = true := allD_mem hdep (by decide)
      have e0 : A.eval (.const (.int .u64 1)) = .int .u64 1 := by rw [hev]; rfl
      have hg : us 1 = .bool false := hG.pre 1 d1
      rw [if_neg (by rw [hy]; show ¬ ((match us 1 with | .bool b => some b | _ => none) == some true) = true; rw [hg]; decide)]
      exact hK _ _ (hG.first trivial)
    · intro dn us w6 A hev hy hG hdn hdep K hK
      have d1 : dn 1 = true := allD_mem hdep (by decide)
      have e0 : A.eval (.tmp 14) = .bool false := by rw [hev]; exact hG.pre 1 d1
      have e1 : A.eval (.const (.bool false)) = .bool false := by rw [hev]; rfl
      rw [if_pos (by rfl)]
      unfold Oper.wp execOp
      generalize A.eval = ev at e0 e1 ⊢
      go_simp
      exact hK _ _ (hG.first (by first | rfl | simp))
    · intro dn us w6 A hev hy hG hdn hdep K hK
      have d14 : dn 14 = true := allD_mem hdep (by decide)
      have e0 : A.eval (.tmp 27) = .bool false := by rw [hev]; exact hG.pre 14 d14
      rw [if_pos (by rfl)]
      unfold Oper.wp execOp
      generalize A.eval = ev at e0 ⊢
      go_simp
      exact hK _ _ (hG.first (by first | rfl | simp))
    intro dn us w6 hG hall
    have u15 : us 15 = .bool false := hG.pre 15 (hall 15 (by decide))
    have hb6 := hG.below
    simp only [fillA, fillT, Nat.reduceAdd, List.setIfInBounds_toArray, List.set_cons_zero, List.set_cons_succ, u15]
    clear hG hall u15
    go_wp2_with fail
    go_ret
    exact ⟨rfl, D2.trans (hb6.mono D2.size)⟩
end Go.Proofs.Ytccmjljlfgbicaa

