/- WalkAny, the walk. Printed by anygen.py. -/
import Derived.Test.YtccmjljlfgbicaaGreatZG16
import Derived.Test.YtccmjljlfgbicaaGreatZEqs
import Derived.Test.YtccmjljlfgbicaaGreatZRStep
import Derived.Test.YtccmjljlfgbicaaGreatZG21
namespace Go.Proofs.YtccmjljlfgbicaaGreat
open Go.ChangeShapes Go.WideShapes Go.ChangeAt Go.RowKit

set_option maxRecDepth 100000 in
set_option maxHeartbeats 2000000 in
theorem wstep_nil (x : Walk) (w : World) :
    Calls Tryz.prog 30 #[.pointer none, x.val] w fun e w' => e = .returned x.val ∧ Below w.heap.size w w' := by
  go_enter Tryz.func30, Tryz.ntmps30
  go_wp2
  exact bodyPost_ret (v := x.val) (by simp [results, Tryz.results30, go_sem]) rfl ⟨rfl, (((Below.refl _ _).alloc (Nat.le_refl _) _).alloc (by simp) _).alloc (by simp; omega) _⟩

theorem keep_below {k : Blks} {w w1 w2 : World} (h : Below w.heap.size w w1) (hO : Only (Own k) w1 w2) (hk : ∀ i, Own k i → w.heap.size ≤ i) : Below w.heap.size w w2 :=
  h.trans (hO.below h.size fun i hi e => by have := hk i e; omega)

set_option maxRecDepth 100000 in
set_option maxHeartbeats 4000000 in
theorem any_walk {c : Scene} {v : Value} {ia ca : Option Addr} {ic cc : Nat} (x : Walk) (w : World) (hx : c.fits) (hn : 0 ≤ x.next ∧ x.next ≤ 18446744073709551615) (hS : SceneAt w v c ia ca ic cc) :
    Calls Tryz.prog 6 #[v, x.val] w fun e w' => e = .returned (.bool true) ∧ Below w.heap.size w w' := by
  have HS := Lib.hid hS
  obtain ⟨rfl, _, _⟩ := hS
  have HX := Lib.hid hx
  have HN := Lib.hid hn
  clear hx hn
  have E2 := (At.new w 25 #[.int .u8 c.fuel, .slice ia c.items.length ic, .slice ca c.calls.length cc]).alloc (.cells x.cells 74)
  have E3 := At.new1 w (.cells #[.int .u8 c.fuel, .slice ia c.items.length ic, .slice ca c.calls.length cc] 25) 74 x.cells
  have D0 := below_twice w (.cells #[.int .u8 c.fuel, .slice ia c.items.length ic, .slice ca c.calls.length cc] 25) (.cells x.cells 74)
  cases hfew : c.few with
  | false =>
    have HF := Lib.hid hfew
    clear hfew
    go_enter Tryz.func6, Tryz.ntmps6
    go_upto_region 1 with fail
    generalize (w.alloc (.cells #[.int .u8 c.fuel, .slice ia c.items.length ic, .slice ca c.calls.length cc] 25)).alloc (.cells x.cells 74) = w0 at *
    go_wp2_with (first
      | (go_at_call 14; refine (few_any _).mono ?_; rintro e w2 ⟨rfl, hb2⟩; rw [HF.out])
      | (refine wpl_ld rfl 25 _ rfl #[.int .u8 c.fuel, .slice ia c.items.length ic, .slice ca c.calls.length cc] rfl _ (E2.below' hb1) Tryz.underlying25 rfl (by kernel_rfl) rfl ?_)
      | (go_at_call 25; refine (awake10_any _).mono ?_; rintro e w1 ⟨rfl, hb1⟩))
    go_ret
    exact ⟨rfl, D0.trans ((hb1.trans (hb2.mono hb1.size)).mono D0.size)⟩
  | true =>
    have HF := Lib.hid hfew
    have hlen : c.items.length ≤ 12 ∧ c.calls.length ≤ 6 := by
      unfold Scene.few at hfew
      simpa using hfew
    have hlp := lay_path HX.out hlen.1
    have hsz := lay_sized hlen.1 hlen.2
    have HL := Lib.hid hlen
    have hok : c.lay.ok := hlp.1
    have hbk : c.lay.c.buckets = 1 := by rw [hlp.2.1]; rfl
    have hwb := walk_book c.lay x
    have hst : ∀ (r : RV) w1, RefIn w1 r c.lay → Calls Tryz.prog 31 #[r.val c.lay, Walk.val x] w1 (RefOut w1 r (fun v => .tuple #[v, Walk.val (c.lay.walkStep x).2]) (c.lay.walkStep x).1) := fun r w1 h1 => rstep_any x w1 h1 hok ⟨by omega, by omega⟩ hbk HN.out
    have hws : ∀ (k : Blks) w1, Holds k c.lay w1 → Calls Tryz.prog 30 #[.pointer (some ⟨k.bw, 0, none⟩), x.val] w1 fun e w' => e = .returned (c.lay.walkStep x).2.val ∧ Holds k (c.lay.walkStep x).1 w' ∧ Only (Own k) w1 w' := fun k w1 h1 => wstep_any x w1 h1 HN.out
    generalize c.lay.walkStep x = q at *
    obtain ⟨s1, x1⟩ := q
    have HST := Lib.hid hst
    have HWS := Lib.hid hws
    have HWB := Lib.hid hwb
    clear hfew hlp hsz hlen hok hbk hst hws hwb
    go_enter Tryz.func6, Tryz.ntmps6
    go_upto_region 1 with fail
    generalize (w.alloc (.cells #[.int .u8 c.fuel, .slice ia c.items.length ic, .slice ca c.calls.length cc] 25)).alloc (.cells x.cells 74) = w0 at *
    go_wp2_with (first
      | (refine wpl_st rfl 76 _ _ rfl (Walk.cells x1) rfl _ rfl (At.only (At.new1 w9 _ _ _) Oa (by show ¬ _ = _; omega)) (by kernel_rfl) rfl rfl rfl ?_; intro wb E11 Ob
         have TTT := True.intro)
      | (refine wpl_st rfl 45 _ _ rfl (RV.cells { r with w := p' } s1) rfl _ rfl ((At.new w9 _ _).alloc _) (by kernel_rfl) rfl rfl rfl ?_; intro wa Aa Oa)
      | (go_at_call 31; refine (HST.out r w8 R8.out).mono ?_; intro e w9 he9; obtain ⟨p', rfl, hB9, hb9⟩ := RefOut.both B6.out H8.out O68 HWB.out.2.2.2.2.2 HWB.out.2.2.2.1 HWB.out.2.2.2.2.1 he9)
      | (refine wpl_ld rfl 76 _ rfl (Walk.cells x) rfl _ F8 Tryz.underlying76 rfl (by kernel_rfl) rfl ?_)
      | (refine wpl_ld rfl 45 _ rfl (r.cells c.lay) rfl _ F7 Tryz.underlying45 rfl (by kernel_rfl) rfl ?_)
      | (refine wpl_st rfl 74 _ _ rfl (Walk.cells x1) rfl _ rfl (At.new w7 _ _) (by kernel_rfl) rfl rfl rfl ?_; intro w8 E9 O9
         have D78 : Below w7.heap.size w7 w8 := ((Below.refl _ w7).alloc (Nat.le_refl _) _).trans (O9.below (by simp) fun j hj e => by have e' : j = w7.heap.size := e; omega)
         have H8 := Lib.hid (hH7.below D78)
         have O68 := hO7.thenBelow D78
         have R8 := Lib.hid (B6.out.ref.aside B6.out.aside O68)
         have F7 := E7.only O68 NK7
         have F8 := E8.only O68 NK8
         have F3 := E3d.only O68 NK3)
      | (go_at_call 30; refine (HWS.out k w6 B6.out.holds).mono ?_; rintro e w7 ⟨rfl, hH7, hO7⟩)
      | (refine wpl_ld rfl 74 _ rfl (Walk.cells x) rfl _ E3d Tryz.underlying74 rfl (by kernel_rfl) rfl ?_)
      | (refine wpl_st rfl 76 _ _ rfl (Walk.cells x) rfl _ rfl (At.new w5 _ _) (by kernel_rfl) rfl rfl rfl ?_; intro w6 E8 O8
         have D56 : Below w5.heap.size w5 w6 := ((Below.refl _ w5).alloc (Nat.le_refl _) _).trans (O8.below (by simp) fun j hj e => by have e' : j = w5.heap.size := e; omega)
         have E7 := E7a.below' D56
         have E3d := E3c.below' D56
         have D46 := D45.trans (D56.mono D45.size)
         have B6 := Lib.hid (⟨hH3.below ((hb4).trans (D46.mono hb4.size)), hR4.below D46, HAS.out⟩ : Both k r c.lay w6)
         have NK7 : ¬ Own k w4.heap.size := fun e => by have := hH3.own_lt _ e; have := hb4.size; omega
         have NK8 : ¬ Own k w5.heap.size := fun e => by have := hH3.own_lt _ e; have := hb4.size; have := D45.size; omega
         have NK3 : ¬ Own k (w.heap.size + 1) := fun e => by have := hK _ (.inr (.inr e)); have := D0.size; have := E3.lt; have := hb1.size; have := hb2.size; omega)
      | (refine wpl_st rfl 45 _ _ rfl (r.cells c.lay) rfl _ rfl (At.new w4 _ _) (by kernel_rfl) rfl rfl rfl ?_; intro w5 E7a O7
         have D45 : Below w4.heap.size w4 w5 := ((Below.refl _ w4).alloc (Nat.le_refl _) _).trans (O7.below (by simp) fun j hj e => by have e' : j = w4.heap.size := e; omega)
         have E3c := E3b.below' D45
         obtain ⟨⟨x0, x1', x2, x3, x4, x5, x6, x7, x8, x9⟩, -, -⟩ := walk_facts E3c)
      | (go_at_call 16; refine (rlay_any w3 HX.out HL.out.1 HL.out.2 ⟨rfl, HS.out.items.below D3, HS.out.calls.below D3⟩).mono ?_; rintro e w4 ⟨r, rfl, hR4, hb4, hoff, hoffw⟩
         have HAS := Lib.hid (aside_of hH3 hoff hoffw)
         clear hoff hoffw
         have E3b := (((E3.below' hb1).below' hb2).below' hb3).below' hb4)
      | (refine wpl_ld rfl 25 _ rfl #[.int .u8 c.fuel, .slice ia c.items.length ic, .slice ca c.calls.length cc] rfl _ (((E2.below' hb1).below' hb2).below' hb3) Tryz.underlying25 rfl (by kernel_rfl) rfl ?_)
      | (go_at_call 26; refine (lay10_any w2 HX.out HL.out.1 HL.out.2 ⟨rfl, HS.out.items.below D2, HS.out.calls.below D2⟩).mono ?_; rintro e w3 ⟨k, rfl, hH3, hK, hb3⟩
         have D3 := D2.trans (hb3.mono D2.size))
      | (refine wpl_ld rfl 25 _ rfl #[.int .u8 c.fuel, .slice ia c.items.length ic, .slice ca c.calls.length cc] rfl _ ((E2.below' hb1).below' hb2) Tryz.underlying25 rfl (by kernel_rfl) rfl ?_)
      | (go_at_call 14; refine (few_any _).mono ?_; rintro e w2 ⟨rfl, hb2⟩; rw [HF.out]
         have D2 := (D0.trans (hb1.mono D0.size)).trans (hb2.mono (by have := D0.size; have := hb1.size; omega)))
      | (refine wpl_ld rfl 25 _ rfl #[.int .u8 c.fuel, .slice ia c.items.length ic, .slice ca c.calls.length cc] rfl _ (E2.below' hb1) Tryz.underlying25 rfl (by kernel_rfl) rfl ?_)
      | (go_at_call 25; refine (awake10_any _).mono ?_; rintro e w1 ⟨rfl, hb1⟩))
    have z9 := E9.lt
    have D9a : Below w9.heap.size w9 wa := (below_twice w9 _ _).trans (Oa.below (by simp; omega) fun j hj e => by have e' : j = w9.heap.size := e; omega)
    have D9 : Below w9.heap.size w9 wb := D9a.trans (Ob.below D9a.size fun j hj e => by have e' : j = w9.heap.size + 1 := e; omega)
    have E10 : At wb w9.heap.size 45 (RV.cells { r with w := p' } s1) := Aa.only Ob (by show ¬ _ = _; omega)
    have hk4 : ∀ i, Own k i → w.heap.size ≤ i := fun i e => by have := hK i (.inr (.inr e)); have := D2.size; omega
    have D4 := D3.trans (hb4.mono D3.size)
    have D6 := D4.trans (D46.mono D4.size)
    have D8 : Below w.heap.size w w8 := keep_below D6 O68 hk4
    have Dw := (D8.trans (hb9.mono D8.size)).trans (D9.mono (by have := D8.size; have := hb9.size; omega))
    have HBE := Lib.hid (hB9.below D9)
    have E9 := (E9.below' hb9).below' D9
    have E8 := (F8.below' hb9).below' D9
    have E3 := (F3.below' hb9).below' D9
    clear hB9 hk4 x0 x1' x2 x3 x4 x5 x6 x7 x8 x9
    refine wp_region_J (l := [_, _, _, _, _, _, _, _, _, _, _, _, _, _, _, _, _, _]) (QG (fun j v => match j with | 0 => v = .bool true | 1 => v = .bool true | 2 => v = .agg (Walk.cells x1) | 3 => v = .agg (Walk.cells x1) | 4 => v = .bool true | 5 => v = .bool true | 6 => v = .bool true | 7 => v = .pointer (some ⟨k.bw, 0, none⟩) | 8 => v = .agg (RV.cells { r with w := p' } s1) | 9 => v = .bool true | 10 => v = .bool true | 11 => v = .bool true | 12 => v = .agg (Walk.cells x) | 13 => v = Walk.val x | 14 => v = .agg (Walk.cells x) | 15 => v = .bool true | 16 => v = .bool true | 17 => v = .bool true | _ => True) wb) (by kernel_rfl) (by kernel_rfl) (fun us => QG.start us) ⟨?_, ?_, ?_, ?_, ?_, ?_, ?_, ?_, ?_, ?_, ?_, ?_, ?_, ?_, ?_, ?_, ?_, ?_, trivial⟩ ?_
    · intro dn us w6 A hev hy hG hdn hdep K hK
      have e0 : A.eval (.tmp 5) = .bool true := by rw [hev]; rfl
      rw [if_pos (by rfl)]
      unfold Oper.wp execOp
      generalize A.eval = ev at e0 ⊢
      go_simp
      exact hK _ _ (hG.first (by first | rfl | simp))
    · intro dn us w6 A hev hy hG hdn hdep K hK
      have d0 : dn 0 = true := allD_mem hdep (by decide)
      have e0 : A.eval (.tmp 53) = .bool true := by rw [hev]; exact hG.pre 0 d0
      rw [if_pos (by rfl)]
      unfold Oper.wp execOp
      generalize A.eval = ev at e0 ⊢
      go_simp
      exact hK _ _ (hG.first (by first | rfl | simp))
    · intro dn us w6 A hev hy hG hdn hdep K hK
      have d1 : dn 1 = true := allD_mem hdep (by decide)
      have e0 : A.eval (.tmp 9) = .pointer (some ⟨w7.heap.size, 0, none⟩) := by rw [hev]; rfl
      have hg : us 1 = .bool true := hG.pre 1 d1
      rw [if_pos (by rw [hy]; show ((match us 1 with | .bool b => some b | _ => none) == some true) = true; rw [hg]; rfl)]
      refine op_ld 74 (.tmp 9) rfl (Walk.cells x1) e0 _ (E9.below' hG.below) Tryz.underlying74 rfl (by kernel_rfl) rfl ?_
      exact hK _ _ (hG.first rfl)
    · intro dn us w6 A hev hy hG hdn hdep K hK
      have d1 : dn 1 = true := allD_mem hdep (by decide)
      have e0 : A.eval (.tmp 11) = .pointer (some ⟨w9.heap.size + 1, 0, none⟩) := by rw [hev]; rfl
      have hg : us 1 = .bool true := hG.pre 1 d1
      rw [if_pos (by rw [hy]; show ((match us 1 with | .bool b => some b | _ => none) == some true) = true; rw [hg]; rfl)]
      refine op_ld 76 (.tmp 11) rfl (Walk.cells x1) e0 _ (E11.below' hG.below) Tryz.underlying76 rfl (by kernel_rfl) rfl ?_
      exact hK _ _ (hG.first rfl)
    · intro dn us w6 A hev hy hG hdn hdep K hK
      have d1 : dn 1 = true := allD_mem hdep (by decide)
      have d2 : dn 2 = true := allD_mem hdep (by decide)
      have d3 : dn 3 = true := allD_mem hdep (by decide)
      have e0 : A.eval (.tmp 55) = .agg (Walk.cells x1) := by rw [hev]; exact hG.pre 2 d2
      have e1 : A.eval (.tmp 56) = .agg (Walk.cells x1) := by rw [hev]; exact hG.pre 3 d3
      have ef : A.eval (.func 32) = .func (.func 32) #[] #[] := by rw [hev]; rfl
      have hg : us 1 = .bool true := hG.pre 1 d1
      rw [if_pos (by rw [hy]; show ((match us 1 with | .bool b => some b | _ => none) == some true) = true; rw [hg]; rfl)]
      unfold Oper.wp execOp
      generalize A.eval = ev at e0 e1 ef ⊢
      go_simp
      refine (same10_any x1 _).mono ?_
      rintro e wq ⟨rfl, hb⟩
      exact hK _ _ (hG.called rfl hb)
    · intro dn us w6 A hev hy hG hdn hdep K hK
      have d1 : dn 1 = true := allD_mem hdep (by decide)
      have d4 : dn 4 = true := allD_mem hdep (by decide)
      have e0 : A.eval (.tmp 54) = .bool true := by rw [hev]; exact hG.pre 1 d1
      have e1 : A.eval (.tmp 57) = .bool true := by rw [hev]; exact hG.pre 4 d4
      have e2 : A.eval (.const (.bool false)) = .bool false := by rw [hev]; rfl
      rw [if_pos (by rfl)]
      unfold Oper.wp execOp
      generalize A.eval = ev at e0 e1 e2 ⊢
      go_simp
      exact hK _ _ (hG.first (by first | rfl | simp))
    · intro dn us w6 A hev hy hG hdn hdep K hK
      have d5 : dn 5 = true := allD_mem hdep (by decide)
      have e0 : A.eval (.tmp 58) = .bool true := by rw [hev]; exact hG.pre 5 d5
      rw [if_pos (by rfl)]
      unfold Oper.wp execOp
      generalize A.eval = ev at e0 ⊢
      go_simp
      exact hK _ _ (hG.first (by first | rfl | simp))
    · intro dn us w6 A hev hy hG hdn hdep K hK
      have d6 : dn 6 = true := allD_mem hdep (by decide)
      have e0 : A.eval (.tmp 6) = .pointer (some ⟨k.bw, 0, none⟩) := by rw [hev]; rfl
      have hg : us 6 = .bool true := hG.pre 6 d6
      rw [if_pos (by rw [hy]; show ((match us 6 with | .bool b => some b | _ => none) == some true) = true; rw [hg]; rfl)]
      unfold Oper.wp execOp
      generalize A.eval = ev at e0 ⊢
      go_simp
      exact hK _ _ (hG.first (by first | rfl | simp))
    · intro dn us w6 A hev hy hG hdn hdep K hK
      have d6 : dn 6 = true := allD_mem hdep (by decide)
      have e0 : A.eval (.tmp 10) = .pointer (some ⟨w9.heap.size, 0, none⟩) := by rw [hev]; rfl
      have hg : us 6 = .bool true := hG.pre 6 d6
      rw [if_pos (by rw [hy]; show ((match us 6 with | .bool b => some b | _ => none) == some true) = true; rw [hg]; rfl)]
      refine op_ld 45 (.tmp 10) rfl (RV.cells { r with w := p' } s1) e0 _ (E10.below' hG.below) Tryz.underlying45 rfl (by kernel_rfl) rfl ?_
      exact hK _ _ (hG.first rfl)
    · intro dn us w6 A hev hy hG hdn hdep K hK
      have d6 : dn 6 = true := allD_mem hdep (by decide)
      have d7 : dn 7 = true := allD_mem hdep (by decide)
      have d8 : dn 8 = true := allD_mem hdep (by decide)
      have e0 : A.eval (.tmp 60) = .pointer (some ⟨k.bw, 0, none⟩) := by rw [hev]; exact hG.pre 7 d7
      have e1 : A.eval (.tmp 61) = .agg (RV.cells { r with w := p' } s1) := by rw [hev]; exact hG.pre 8 d8
      have ef : A.eval (.func 33) = .func (.func 33) #[] #[] := by rw [hev]; rfl
      have hg : us 6 = .bool true := hG.pre 6 d6
      rw [if_pos (by rw [hy]; show ((match us 6 with | .bool b => some b | _ => none) == some true) = true; rw [hg]; rfl)]
      unfold Oper.wp execOp
      generalize A.eval = ev at e0 e1 ef ⊢
      go_simp
      refine (equal10_any (k := k) (r := { r with w := p' }) (s := s1) _ (HBE.out.below hG.below)).mono ?_
      rintro e wq ⟨rfl, hb⟩
      exact hK _ _ (hG.called rfl hb)
    · intro dn us w6 A hev hy hG hdn hdep K hK
      have d6 : dn 6 = true := allD_mem hdep (by decide)
      have d9 : dn 9 = true := allD_mem hdep (by decide)
      have e0 : A.eval (.tmp 59) = .bool true := by rw [hev]; exact hG.pre 6 d6
      have e1 : A.eval (.tmp 62) = .bool true := by rw [hev]; exact hG.pre 9 d9
      have e2 : A.eval (.const (.bool false)) = .bool false := by rw [hev]; rfl
      rw [if_pos (by rfl)]
      unfold Oper.wp execOp
      generalize A.eval = ev at e0 e1 e2 ⊢
      go_simp
      exact hK _ _ (hG.first (by first | rfl | simp))
    · intro dn us w6 A hev hy hG hdn hdep K hK
      have d10 : dn 10 = true := allD_mem hdep (by decide)
      have e0 : A.eval (.tmp 63) = .bool true := by rw [hev]; exact hG.pre 10 d10
      rw [if_pos (by rfl)]
      unfold Oper.wp execOp
      generalize A.eval = ev at e0 ⊢
      go_simp
      exact hK _ _ (hG.first (by first | rfl | simp))
    · intro dn us w6 A hev hy hG hdn hdep K hK
      have d11 : dn 11 = true := allD_mem hdep (by decide)
      have e0 : A.eval (.tmp 3) = .pointer (some ⟨w.heap.size + 1, 0, none⟩) := by rw [hev]; rfl
      have hg : us 11 = .bool true := hG.pre 11 d11
      rw [if_pos (by rw [hy]; show ((match us 11 with | .bool b => some b | _ => none) == some true) = true; rw [hg]; rfl)]
      refine op_ld 74 (.tmp 3) rfl (Walk.cells x) e0 _ (E3.below' hG.below) Tryz.underlying74 rfl (by kernel_rfl) rfl ?_
      exact hK _ _ (hG.first rfl)
    · intro dn us w6 A hev hy hG hdn hdep K hK
      have d11 : dn 11 = true := allD_mem hdep (by decide)
      have d12 : dn 12 = true := allD_mem hdep (by decide)
      have e0 : A.eval (.const (.pointer none)) = .pointer none := by rw [hev]; rfl
      have e1 : A.eval (.tmp 65) = .agg (Walk.cells x) := by rw [hev]; exact hG.pre 12 d12
      have ef : A.eval (.func 30) = .func (.func 30) #[] #[] := by rw [hev]; rfl
      have hg : us 11 = .bool true := hG.pre 11 d11
      rw [if_pos (by rw [hy]; show ((match us 11 with | .bool b => some b | _ => none) == some true) = true; rw [hg]; rfl)]
      unfold Oper.wp execOp
      generalize A.eval = ev at e0 e1 ef ⊢
      go_simp
      refine (wstep_nil x _).mono ?_
      rintro e wq ⟨rfl, hb⟩
      exact hK _ _ (hG.called rfl hb)
    · intro dn us w6 A hev hy hG hdn hdep K hK
      have d11 : dn 11 = true := allD_mem hdep (by decide)
      have e0 : A.eval (.tmp 8) = .pointer (some ⟨w5.heap.size, 0, none⟩) := by rw [hev]; rfl
      have hg : us 11 = .bool true := hG.pre 11 d11
      rw [if_pos (by rw [hy]; show ((match us 11 with | .bool b => some b | _ => none) == some true) = true; rw [hg]; rfl)]
      refine op_ld 76 (.tmp 8) rfl (Walk.cells x) e0 _ (E8.below' hG.below) Tryz.underlying76 rfl (by kernel_rfl) rfl ?_
      exact hK _ _ (hG.first rfl)
    · intro dn us w6 A hev hy hG hdn hdep K hK
      have d11 : dn 11 = true := allD_mem hdep (by decide)
      have d13 : dn 13 = true := allD_mem hdep (by decide)
      have d14 : dn 14 = true := allD_mem hdep (by decide)
      have e0 : A.eval (.tmp 66) = Walk.val x := by rw [hev]; exact hG.pre 13 d13
      have e1 : A.eval (.tmp 67) = .agg (Walk.cells x) := by rw [hev]; exact hG.pre 14 d14
      have ef : A.eval (.func 32) = .func (.func 32) #[] #[] := by rw [hev]; rfl
      have hg : us 11 = .bool true := hG.pre 11 d11
      rw [if_pos (by rw [hy]; show ((match us 11 with | .bool b => some b | _ => none) == some true) = true; rw [hg]; rfl)]
      unfold Oper.wp execOp
      generalize A.eval = ev at e0 e1 ef ⊢
      go_simp
      refine (same10_any x _).mono ?_
      rintro e wq ⟨rfl, hb⟩
      exact hK _ _ (hG.called rfl hb)
    · intro dn us w6 A hev hy hG hdn hdep K hK
      have d11 : dn 11 = true := allD_mem hdep (by decide)
      have d15 : dn 15 = true := allD_mem hdep (by decide)
      have e0 : A.eval (.tmp 64) = .bool true := by rw [hev]; exact hG.pre 11 d11
      have e1 : A.eval (.tmp 68) = .bool true := by rw [hev]; exact hG.pre 15 d15
      have e2 : A.eval (.const (.bool false)) = .bool false := by rw [hev]; rfl
      rw [if_pos (by rfl)]
      unfold Oper.wp execOp
      generalize A.eval = ev at e0 e1 e2 ⊢
      go_simp
      exact hK _ _ (hG.first (by first | rfl | simp))
    · intro dn us w6 A hev hy hG hdn hdep K hK
      have d16 : dn 16 = true := allD_mem hdep (by decide)
      have e0 : A.eval (.tmp 69) = .bool true := by rw [hev]; exact hG.pre 16 d16
      rw [if_pos (by rfl)]
      unfold Oper.wp execOp
      generalize A.eval = ev at e0 ⊢
      go_simp
      exact hK _ _ (hG.first (by first | rfl | simp))
    intro dn us wz hG hall
    have u17 : us 17 = .bool true := hG.pre 17 (hall 17 (by decide))
    have hb0 := hG.below
    simp only [fillA, fillT, Act.put, Nat.reduceAdd, List.setIfInBounds_toArray, List.set_cons_zero, List.set_cons_succ, u17]
    clear hG hall u17
    go_wp2_with fail
    go_ret
    exact ⟨rfl, Dw.trans (hb0.mono Dw.size)⟩

end Go.Proofs.YtccmjljlfgbicaaGreat

