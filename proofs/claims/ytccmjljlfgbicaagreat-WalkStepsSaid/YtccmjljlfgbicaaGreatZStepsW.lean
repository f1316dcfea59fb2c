/- WalkSteps, the walk. Printed by stepsgen.py. -/
import Derived.Test.YtccmjljlfgbicaaGreatZAnyW
import Derived.Test.YtccmjljlfgbicaaGreatZAct10
import Derived.Test.YtccmjljlfgbicaaGreatZG22
namespace Go.Proofs.YtccmjljlfgbicaaGreat
open Go.ChangeShapes Go.WideShapes Go.ChangeAt Go.RowKit

theorem act_same (s : St) (a : GAct) : (s.act a).c = s.c ∧ (s.act a).ops = s.ops ∧ (s.act a).nodes = s.nodes ∧ (s.act a).thr = s.thr := by
  unfold St.act; split <;> exact ⟨rfl, rfl, rfl, rfl⟩
theorem act_len (s : St) (a : GAct) : (s.act a).words.length = s.words.length := by
  unfold St.act; split
  · exact store_len s _ _
  · exact swap_len s _ _ _
theorem RefIn.box {r0 : RV} {p : Sl} {s : St} {w w' W : World} {g : Nat} {t : TypeId} {cs : Array Value} (h : RefIn w { r0 with w := p } s) (hl : 2 ≤ s.words.length) (hr0 : RowsOff r0 (fun j => ¬ j < W.heap.size)) (hA : At w g t cs) (hc : noTwo cs.toList = true) (hg : W.heap.size ≤ g) (ho : Only (fun j => j = g) w w') : RefIn w' { r0 with w := p } s :=
  ⟨h.words.only ho fun b o e _ => words_apart2 h.words hA hc hl b o e, h.book.only ho ⟨fun b o e k => hr0.cs b o e (by have e' : b = g := k; omega), fun b o e k => hr0.is b o e (by have e' : b = g := k; omega), fun b o e k => hr0.ms b o e (by have e' : b = g := k; omega), fun b o e k => hr0.os b o e (by have e' : b = g := k; omega), fun b o e k => hr0.ns b o e (by have e' : b = g := k; omega)⟩⟩
theorem RefOut.both2 {k : Blks} {r : RV} {s s1 : St} {w1 w2 : World} {f : Value → Value} {e : Ending} (hA : Aside k r) (hR : RefIn w1 r s) (hH : Holds k s1 w1) (h1 : s1.thr = s.thr) (h2 : s1.ops = s.ops) (h3 : s1.nodes = s.nodes) (hr : RefOut w1 r f s1 e w2) :
    ∃ p' : Sl, e = .returned (f (RV.val { r with w := p' } s1)) ∧ Both k { r with w := p' } s1 w2 ∧ Below w1.heap.size w1 w2 := by
  obtain ⟨p', a, b, c, d⟩ := hr
  exact ⟨p', a, ⟨hH.below c, ⟨b, (hR.book.below c).other h1 h2 h3 p'⟩, hA.next hH d⟩, c⟩
theorem new_below {w w' : World} {o : Obj} (h : Only (fun j => j = w.heap.size) (w.alloc o) w') : Below w.heap.size w w' :=
  ((Below.refl _ w).alloc (Nat.le_refl _) _).trans (h.below (by simp) fun j hj e => by have e' : j = w.heap.size := e; omega)
/-- A struct is read out of a block, by a guarded operation. -/
theorem wpl_ldg {P : Program} {o : Oper} {ops : Array Oper} {rest : List Oper} {a : Act} {w : World} {Q : Exit → Act → World → Prop} (hw : Region.wanted o (yielded ops a.tmps) = true) (ty : TypeId) (x : Operand) (ho : o.op = .load ty x) {g i : Nat} {t : TypeId} {cs : Array Value} (vs : Array Value) (hx : a.eval x = .pointer (some ⟨g, i, none⟩)) (d : TypeDesc) (hA : At w g t cs)
    (hu : P.underlying ty = some d) (hd : (match d with | .struct _ | .array _ _ => true | _ => false) = true) (hi : (P.info? ty).map (·.size) = some vs.size) (hvs : (cs.toList.drop i).take vs.size = vs.toList)
    (h : wpList P ops Q rest (a.put o.dst (.agg vs)) w) : wpList P ops Q (o :: rest) a w := by
  unfold wpList
  rw [if_pos hw]
  exact .inl (op_ld ty x ho vs hx d hA hu hd hi hvs h)
/-- What is known at the head of each round. -/
structure SAt (k : Blks) (r0 : RV) (s0 : St) (w : World) (g9 g10 g11 : Nat) (s : St) (y : Walk) (p : Sl) (wr : World) : Prop where
  c : s.c = s0.c
  ops : s.ops = s0.ops
  nodes : s.nodes = s0.nodes
  thr : s.thr = s0.thr
  next : 0 ≤ y.next ∧ y.next ≤ 18446744073709551615
  both : Both k { r0 with w := p } s wr
  t9 : At wr g9 45 (RV.cells { r0 with w := p } s)
  t10 : At wr g10 74 y.cells
  t11 : At wr g11 76 y.cells
  below : Below w.heap.size w wr

set_option maxRecDepth 100000 in
set_option maxHeartbeats 4000000 in
theorem steps_walk {c : Scene} {v : Value} {ia ca ao : Option Addr} {ic cc ac : Nat} {l : List GAct} (x : Walk) (w : World) (hx : c.fits) (hS : SceneAt w v c ia ca ic cc) (hL : ReadAt w ao (actsV l)) (hf : ∀ a ∈ l, a.fits) :
    Calls Tryz.prog 5 #[v, x.val, .slice ao l.length ac] w fun e w' => e = .returned (.bool true) ∧ Below w.heap.size w w' := by
  have HS := Lib.hid hS
  obtain ⟨rfl, _, _⟩ := hS
  have HX := Lib.hid hx
  have HLL := Lib.hid hL
  have HFF := Lib.hid hf
  clear hx hL hf
  have E2 := (At.new w 25 #[.int .u8 c.fuel, .slice ia c.items.length ic, .slice ca c.calls.length cc]).alloc (.cells x.cells 74)
  have E3 := At.new1 w (.cells #[.int .u8 c.fuel, .slice ia c.items.length ic, .slice ca c.calls.length cc] 25) 74 x.cells
  have D0 := below_twice w (.cells #[.int .u8 c.fuel, .slice ia c.items.length ic, .slice ca c.calls.length cc] 25) (.cells x.cells 74)
  cases hfew : c.few with
  | false =>
    have HF := Lib.hid hfew
    clear hfew
    go_enter Tryz.func5, Tryz.ntmps5
    go_upto_region 1 with fail
    generalize (w.alloc (.cells #[.int .u8 c.fuel, .slice ia c.items.length ic, .slice ca c.calls.length cc] 25)).alloc (.cells x.cells 74) = w0 at *
    go_wp2_with (first
      | (go_at_call 14; refine (few_any _).mono ?_; rintro e w2 ⟨rfl, hb2⟩; rw [HF.out])
      | (refine wpl_ld rfl 25 _ rfl #[.int .u8 c.fuel, .slice ia c.items.length ic, .slice ca c.calls.length cc] rfl _ (E2.below' hb1) Tryz.underlying25 rfl (by kernel_rfl) rfl ?_)
      | (go_at_call 25; refine (awake10_any _).mono ?_; rintro e w1 ⟨rfl, hb1⟩))
    go_ret
    exact ⟨rfl, D0.trans ((hb1.trans (hb2.mono hb1.size)).mono D0.size)⟩
  | true =>
   have HF := Lib.hid hfew
   have hlen : c.items.length ≤ 12 ∧ c.calls.length ≤ 6 := by
     unfold Scene.few at hfew
     simpa using hfew
   clear hfew
   by_cases h40 : l.length ≤ 40
   case neg =>
    go_enter Tryz.func5, Tryz.ntmps5
    go_upto_region 1 with fail
    generalize (w.alloc (.cells #[.int .u8 c.fuel, .slice ia c.items.length ic, .slice ca c.calls.length cc] 25)).alloc (.cells x.cells 74) = w0 at *
    go_wp2_with (first
      | (go_at_call 14; refine (few_any _).mono ?_; rintro e w2 ⟨rfl, hb2⟩; rw [HF.out])
      | (refine wpl_ld rfl 25 _ rfl #[.int .u8 c.fuel, .slice ia c.items.length ic, .slice ca c.calls.length cc] rfl _ (E2.below' hb1) Tryz.underlying25 rfl (by kernel_rfl) rfl ?_)
      | (go_at_call 25; refine (awake10_any _).mono ?_; rintro e w1 ⟨rfl, hb1⟩))
    go_ret
    exact ⟨rfl, D0.trans ((hb1.trans (hb2.mono hb1.size)).mono D0.size)⟩
   case pos =>
    have hlp := lay_path HX.out hlen.1
    have hsz := lay_sized hlen.1 hlen.2
    have HL := Lib.hid hlen
    have HOK := Lib.hid (show c.lay.ok from hlp.1)
    have HBK := Lib.hid (show c.lay.c.buckets = 1 by rw [hlp.2.1]; rfl)
    have HSZ := Lib.hid (show Sized c.lay from ⟨by omega, by omega⟩)
    obtain ⟨m, hm⟩ : ∃ m : Nat, m = l.length + 20 := ⟨_, rfl⟩
    have e20 : IntKind.i64.wrap ((l.length : Int) + 20) = (m : Int) := by rw [IntWalk.i64_in _ (by omega)]; omega
    have hm9 : m ≤ 60 := by omega
    clear hm
    clear hlp hsz hlen
    go_enter Tryz.func5, Tryz.ntmps5
    go_upto_region 1 with fail
    generalize (w.alloc (.cells #[.int .u8 c.fuel, .slice ia c.items.length ic, .slice ca c.calls.length cc] 25)).alloc (.cells x.cells 74) = w0 at *
    go_wp2_with (first
      | (refine wpl_st rfl 76 _ _ rfl (Walk.cells (Walk.new x.key x.mode)) rfl _ rfl (At.new w8 _ _) (by kernel_rfl) rfl rfl rfl ?_; intro w9 E11 O11
         have D89 := new_below O11)
      | (go_at_call 28; refine (rwalknew_any x.key x.mode w7).mono ?_; rintro e w8 ⟨rfl, hb8⟩)
      | (refine wpl_st rfl 74 _ _ rfl (Walk.cells (Walk.new x.key x.mode)) rfl _ rfl (At.new w6 _ _) (by kernel_rfl) rfl rfl rfl ?_; intro w7 E10 O10
         have D67 := new_below O10
         obtain ⟨⟨x0, x1, x2, x3, x4, x5, x6, x7, x8, x9⟩, -, -⟩ := walk_facts ((E3c.below' hb6).below' D67)
         clear x2 x3 x4 x5 x6 x7 x8 x9)
      | (go_at_call 27; refine (walknew_any x.key x.mode w5).mono ?_; rintro e w6 ⟨rfl, hb6⟩)
      | (refine wpl_st rfl 45 _ _ rfl (r.cells c.lay) rfl _ rfl (At.new w4 _ _) (by kernel_rfl) rfl rfl rfl ?_; intro w5 E9 O9
         have D45 := new_below O9
         have E3c := E3b.below' D45
         obtain ⟨⟨x0, x1, x2, x3, x4, x5, x6, x7, x8, x9⟩, -, -⟩ := walk_facts E3c
         clear x2 x3 x4 x5 x6 x7 x8 x9)
      | (go_at_call 16; refine (rlay_any w3 HX.out HL.out.1 HL.out.2 ⟨rfl, HS.out.items.below D3, HS.out.calls.below D3⟩).mono ?_; rintro e w4 ⟨r, rfl, hR4, hb4, hoff, hoffw⟩
         have HAS := Lib.hid (aside_of hH3 hoff hoffw)
         clear hoff hoffw
         have E3b := (((E3.below' hb1).below' hb2).below' hb3).below' hb4)
      | (refine wpl_ld rfl 25 _ rfl #[.int .u8 c.fuel, .slice ia c.items.length ic, .slice ca c.calls.length cc] rfl _ (((E2.below' hb1).below' hb2).below' hb3) Tryz.underlying25 rfl (by kernel_rfl) rfl ?_)
      | (go_at_call 26; refine (lay10_any w2 HX.out HL.out.1 HL.out.2 ⟨rfl, HS.out.items.below D2, HS.out.calls.below D2⟩).mono ?_; rintro e w3 ⟨k, rfl, hH3, hK, hb3⟩
         have D3 := D2.trans (hb3.mono D2.size))
      | (refine wpl_ld rfl 25 _ rfl #[.int .u8 c.fuel, .slice ia c.items.length ic, .slice ca c.calls.length cc] rfl _ ((E2.below' hb1).below' hb2) Tryz.underlying25 rfl (by kernel_rfl) rfl ?_)
      | (go_at_call 14; refine (few_any _).mono ?_; rintro e w2 ⟨rfl, hb2⟩; rw [HF.out]
         have D2 := (D0.trans (hb1.mono D0.size)).trans (hb2.mono (by have := D0.size; have := hb1.size; omega)))
      | (refine wpl_ld rfl 25 _ rfl #[.int .u8 c.fuel, .slice ia c.items.length ic, .slice ca c.calls.length cc] rfl _ (E2.below' hb1) Tryz.underlying25 rfl (by kernel_rfl) rfl ?_)
      | (go_at_call 25; refine (awake10_any _).mono ?_; rintro e w1 ⟨rfl, hb1⟩))
    have D4 := D3.trans (hb4.mono D3.size)
    have z5 := E9.lt
    have z56 := hb6.size
    have z7 := E10.lt
    have z78 := hb8.size
    have z9 := E11.lt
    have D46 := D45.trans (hb6.mono D45.size)
    have D47 := D46.trans (D67.mono D46.size)
    have D48 := D47.trans (hb8.mono D47.size)
    have D49 := D48.trans (D89.mono D48.size)
    have D9 := D4.trans (D49.mono D4.size)
    have hH4 := hH3.below hb4
    have hr4 := rows_lt hR4.book (by have := HOK.out.thr; have := may_bounds HOK.out.may; omega)
    have hk4 : ∀ i, Own k i → i < w4.heap.size := hH4.own_lt
    have hkw : ∀ i, Own k i → w.heap.size ≤ i := fun i e => by have := hK i (.inr (.inr e)); have := D2.size; omega
    have hst0 : SAt k r c.lay w w4.heap.size w6.heap.size w8.heap.size c.lay (Walk.new x.key x.mode) r.w w9 :=
      ⟨rfl, rfl, rfl, rfl, by unfold Walk.new; simp, ⟨hH4.below D49, hR4.below D49, HAS.out⟩, E9.below' ((hb6.trans (D67.mono hb6.size)).trans ((hb8.trans (D89.mono hb8.size)).mono (by omega))), E10.below' (hb8.trans (D89.mono hb8.size)), E11, D9⟩
    have H4 := Lib.hid hH4
    have HR4 := Lib.hid hr4
    have NK9 : ¬ Own k w4.heap.size := fun e => by have := hk4 _ e; omega
    have NK10 : ¬ Own k w6.heap.size := fun e => by have := hk4 _ e; omega
    have NK11 : ¬ Own k w8.heap.size := fun e => by have := hk4 _ e; omega
    have g9 : w4.heap.size < w6.heap.size := by omega
    have g10 : w6.heap.size < w8.heap.size := by omega
    have HKW := Lib.hid hkw
    have HS4 := Lib.hid (show w.heap.size ≤ w4.heap.size from D4.size)
    clear hR4 hr4 hk4 hkw hH4 hH3 hK hb1 hb2 hb3 hb4 hb6 hb8 D0 D2 D3 D4 D45 D46 D47 D48 D49 D67 D89 D9 E2 E3 E9 E10 E11 E3b E3c O9 O10 O11 x0 x1 z5 z56 z7 z78 z9
    go_loopg [12] m (fun gg v12 wr => ∃ i : Nat, v12 = .int .i64 i ∧ i + gg = m ∧ ∃ s y p, SAt k r c.lay w w4.heap.size w6.heap.size w8.heap.size s y p wr)
    case atStart => exact ⟨0, rfl, by omega, _, _, _, hst0⟩
    case round =>
      obtain ⟨i, rfl, hi, s, y, p, hR⟩ := hrel
      clear hst0
      by_cases hlt : i < m
      · by_cases hil : i < l.length
        · obtain ⟨ac1, hac⟩ : ∃ a, l[i]? = some a := ⟨_, List.getElem?_eq_getElem hil⟩
          obtain ⟨b, o, rfl, lb, n0, n1, n2, n3, n4⟩ := act_read (HLL.out.below hR.below) hac
          have HFT := Lib.hid (HFF.out ac1 (List.mem_of_getElem? hac))
          have hka : IntKind.u8.wrap (ac1.kind.tmod 3) = ac1.kind.tmod 3 := by
            have := HFT.out.1
            rw [Int.tmod_eq_emod_of_nonneg this.1]
            exact IntWalk.u8_in _ (by omega)
          clear hac
          by_cases hk3 : 0 < ac1.kind.tmod 3
          · go_wp2_with fail
            have HBd := Lib.hid (hR.both.below ((Below.refl _ wr).drew))
            have T9 : At wr.drew w4.heap.size 45 (RV.cells { r with w := p } s) := hR.t9
            have ht10 : At wr.drew w6.heap.size 74 y.cells := hR.t10
            have ht11 : At wr.drew w8.heap.size 76 y.cells := hR.t11
            have hDr : Below w.heap.size w wr.drew := hR.below.drew
            have hRn := hR.next
            have hRs := And.intro hR.c (And.intro hR.ops (And.intro hR.nodes hR.thr))
            generalize hrr : ({ r with w := p } : RV) = rr at *
            refine wp_region_J (l := [_, _, _, _, _, _, _, _]) (CSG 6 [1, 5] (fun j v => match j with | 0 => v = .pointer (some ⟨k.bw, 0, none⟩) | 1 => v = .agg (rr.cells s) | 2 => v = .slice (some ⟨b, o, none⟩) l.length ac | 3 => v = .int .i64 i | 4 => v = .pointer (some ⟨b, o + i * 5, none⟩) | 5 => v = .agg ac1.c | _ => True) wr.drew (fun v w' => ∃ p' : Sl, v = RV.val { rr with w := p' } (s.act ac1) ∧ Both k { rr with w := p' } (s.act ac1) w' ∧ Only (Own k) wr.drew w') (fun w' => ∃ (p' : Sl) (w1 : World), Both k { rr with w := p' } (s.act ac1) w1 ∧ Only (Own k) wr.drew w1 ∧ At w' w4.heap.size 45 (RV.cells { rr with w := p' } (s.act ac1)) ∧ Only (fun j => j = w4.heap.size) w1 w')) (by kernel_rfl) (by kernel_rfl) (fun us => CSG.start us) ⟨?_, ?_, ?_, ?_, ?_, ?_, ?_, ?_, trivial⟩ ?_
            · intro dn us w6 A hev hy hG hdn hdep K hK
              have e0 : A.eval (.tmp 8) = .pointer (some ⟨k.bw, 0, none⟩) := by rw [hev]; rfl
              rw [if_pos (by rfl)]
              unfold Oper.wp execOp
              generalize A.eval = ev at e0 ⊢
              go_simp
              exact hK _ _ (hG.first (by decide) (by first | rfl | simp))
            · intro dn us w6 A hev hy hG hdn hdep K hK
              have e0 : A.eval (.tmp 9) = .pointer (some ⟨w4.heap.size, 0, none⟩) := by rw [hev]; rfl
              have hw6 : w6 = wr.drew := hG.as hdn (by decide)
              subst hw6
              refine step_list (wpl_ld rfl 45 (.tmp 9) rfl (rr.cells s) e0 _ T9 Tryz.underlying45 rfl (by kernel_rfl) rfl ⟨rfl, ?_⟩)
              exact hK _ _ (hG.first (by decide) rfl)
            · intro dn us w6 A hev hy hG hdn hdep K hK
              have e0 : A.eval (.tmp 2) = .slice (some ⟨b, o, none⟩) l.length ac := by rw [hev]; rfl
              rw [if_pos (by rfl)]
              unfold Oper.wp execOp
              generalize A.eval = ev at e0 ⊢
              go_simp
              exact hK _ _ (hG.first (by decide) (by first | rfl | simp))
            · intro dn us w6 A hev hy hG hdn hdep K hK
              have e0 : A.eval (.tmp 12) = .int .i64 i := by rw [hev]; rfl
              rw [if_pos (by rfl)]
              unfold Oper.wp execOp
              generalize A.eval = ev at e0 ⊢
              go_simp
              exact hK _ _ (hG.first (by decide) (by first | rfl | simp))
            · intro dn us w6 A hev hy hG hdn hdep K hK
              have d2 : dn 2 = true := allD_mem hdep (by decide)
              have d3 : dn 3 = true := allD_mem hdep (by decide)
              have e0 : A.eval (.tmp 63) = .slice (some ⟨b, o, none⟩) l.length ac := by rw [hev]; exact hG.pre 2 (by decide) d2
              have e1 : A.eval (.tmp 64) = .int .i64 i := by rw [hev]; exact hG.pre 3 (by decide) d3
              rw [if_pos (by rfl)]
              unfold Oper.wp execOp
              generalize A.eval = ev at e0 e1 ⊢
              go_simp
              exact hK _ _ (hG.first (by decide) (by first | rfl | simp))
            · intro dn us w6 A hev hy hG hdn hdep K hK
              have d4 : dn 4 = true := allD_mem hdep (by decide)
              have e0 : A.eval (.tmp 65) = .pointer (some ⟨b, o + i * 5, none⟩) := by rw [hev]; exact hG.pre 4 (by decide) d4
              have hw6 : w6 = wr.drew := hG.as hdn (by decide)
              subst hw6
              rw [if_pos (by rfl)]
              unfold Oper.wp execOp
              generalize A.eval = ev at e0 ⊢
              go_simp
              exact hK _ _ (hG.first (by decide) (by first | rfl | simp))
            · intro dn us w6 A hev hy hG hdn hdep K hK
              have d0 : dn 0 = true := allD_mem hdep (by decide)
              have d1 : dn 1 = true := allD_mem hdep (by decide)
              have d5 : dn 5 = true := allD_mem hdep (by decide)
              have hw6 : w6 = wr.drew := hG.same hdn
              subst hw6
              have e0 : A.eval (.tmp 61) = .pointer (some ⟨k.bw, 0, none⟩) := by rw [hev]; exact hG.pre 0 (by decide) d0
              have e1 : A.eval (.tmp 62) = .agg (rr.cells s) := by rw [hev]; exact hG.pre 1 (by decide) d1
              have e2 : A.eval (.tmp 66) = .agg ac1.c := by rw [hev]; exact hG.pre 5 (by decide) d5
              have ef : A.eval (.func 29) = .func (.func 29) #[] #[] := by rw [hev]; rfl
              rw [if_pos (by rfl)]
              unfold Oper.wp execOp
              generalize A.eval = ev at e0 e1 e2 ef ⊢
              go_simp
              refine (act10_any ac1 wr.drew HBd.out HFT.out).mono ?_
              rintro e wq ⟨p', rfl, hB2, hO2⟩
              refine hK _ _ (hG.called hdn (fun j hj => ?_) (by decide) ⟨p', rfl, hB2, hO2⟩)
              rcases List.mem_cons.1 hj with rfl | hj
              · exact d1
              · rcases List.mem_cons.1 hj with rfl | hj
                · exact d5
                · cases hj
            · intro dn us w6 A hev hy hG hdn hdep K hK
              have d6 : dn 6 = true := allD_mem hdep (by decide)
              obtain ⟨p', u6, hB2, hO2⟩ := hG.call d6 hdn
              have e0 : A.eval (.tmp 9) = .pointer (some ⟨w4.heap.size, 0, none⟩) := by rw [hev]; rfl
              have e1 : A.eval (.tmp 67) = RV.val { rr with w := p' } (s.act ac1) := by rw [hev]; exact u6
              refine step_list (wpl_st rfl 45 (.tmp 9) (.tmp 67) rfl (RV.cells { rr with w := p' } (s.act ac1)) e0 _ e1 (T9.only hO2 NK9) (by kernel_rfl) rfl rfl rfl fun w7 A7 O7 => ⟨rfl, ?_⟩)
              exact hK _ _ (hG.stored d6 ⟨p', w6, hB2, hO2, A7, O7⟩)
            intro dn us wA hG hall
            obtain ⟨pA, w1, hB1, hO1, T9A, O9A⟩ := hG.st (hall 7 (by decide))
            clear hG hall
            simp only [fillA, fillT, Nat.reduceAdd, List.setIfInBounds_toArray, List.set_cons_zero, List.set_cons_succ]
            subst hrr
            have hsA := act_same s ac1
            have BA : Both k { r with w := pA } (s.act ac1) wA := ⟨Holds.new H4.out hB1.holds O9A fun j e => by have e' : j = w4.heap.size := e; omega, RefIn.box (r0 := r) (W := w4) hB1.ref (words_two hB1.holds.ok) HR4.out (T9.only hO1 NK9) (noTwo_rv _ _) (Nat.le_refl _) O9A, hB1.aside⟩
            have T10A := (ht10.only hO1 NK10).only O9A (by show ¬ _ = _; omega)
            have T11A := (ht11.only hO1 NK11).only O9A (by show ¬ _ = _; omega)
            have DA : Below w.heap.size w wA := (keep_below hDr hO1 HKW.out).trans (O9A.below (by have := (keep_below hDr hO1 HKW.out).size; omega) fun j hj e => by have e' : j = w4.heap.size := e; have := HS4.out; omega)
            have hc1 := hsA.1.trans hRs.1
            have hc2 := hsA.2.1.trans hRs.2.1
            have hc3 := hsA.2.2.1.trans hRs.2.2.1
            have hc4 := hsA.2.2.2.trans hRs.2.2.2
            generalize s.act ac1 = sA at *
            clear hB1 hO1 O9A T9 ht10 ht11 hDr hR hRs hsA HBd
            have hst := rstep_any (r := { r with w := pA }) (s := sA) y
            have hws := wstep_any (k := k) (s := sA) y
            have hwb := walk_book sA y
            have hnn := step_next BA.holds.ok hRn
            generalize sA.walkStep y = q at *
            obtain ⟨s2, y2⟩ := q
            have HST := Lib.hid hst
            have HWS := Lib.hid hws
            have HWB := Lib.hid hwb
            have HNN := Lib.hid hnn
            have HRN := Lib.hid hRn
            have HBA := Lib.hid BA
            have HCC := Lib.hid (And.intro hc1 (And.intro hc2 (And.intro hc3 hc4)))
            clear hst hws hwb hnn hRn BA hc1 hc2 hc3 hc4
            go_wp2_with (first
              | (go_at_call 32; refine (same10_any y2 wH).mono ?_; rintro e wI ⟨rfl, hbI⟩)
              | (refine wpl_ld rfl 76 _ rfl (Walk.cells y2) rfl _ T11H Tryz.underlying76 rfl (by kernel_rfl) rfl ?_)
              | (refine wpl_ld rfl 74 _ rfl (Walk.cells y2) rfl _ T10H Tryz.underlying74 rfl (by kernel_rfl) rfl ?_)
              | (refine wpl_st rfl 76 _ _ rfl (Walk.cells y2) rfl _ rfl T11G (by kernel_rfl) rfl rfl rfl ?_; intro wH T11H OH
                 have T10H := T10G.only OH (by show ¬ _ = _; omega)
                 have TTT := True.intro)
              | (refine wpl_ld rfl 76 _ rfl (Walk.cells y2) rfl _ E14G Tryz.underlying76 rfl (by kernel_rfl) rfl ?_)
              | (refine wpl_st rfl 45 _ _ rfl (RV.cells { r with w := p2 } s2) rfl _ rfl T9F (by kernel_rfl) rfl rfl rfl ?_; intro wG T9G OG
                 have E14G := E14F.only OG (by show ¬ _ = _; omega)
                 have T10G := T10F.only OG (by show ¬ _ = _; omega)
                 have T11G := T11F.only OG (by show ¬ _ = _; omega))
              | (refine wpl_ld rfl 45 _ rfl (RV.cells { r with w := p2 } s2) rfl _ E13F Tryz.underlying45 rfl (by kernel_rfl) rfl ?_)
              | (refine wpl_st rfl 76 _ _ rfl (Walk.cells y2) rfl _ rfl (At.only (At.new1 wD _ _ _) OE (by show ¬ _ = _; omega)) (by kernel_rfl) rfl rfl rfl ?_; intro wF E14F OF
                 have DDE : Below wD.heap.size wD wE := (below_twice wD _ _).trans (OE.below (by simp; omega) fun j hj e => by have e' : j = wD.heap.size := e; omega)
                 have DDF : Below wD.heap.size wD wF := DDE.trans (OF.below DDE.size fun j hj e => by have e' : j = wD.heap.size + 1 := e; omega)
                 have E13F := E13E.only OF (by show ¬ _ = _; omega)
                 have l9 := T9C.lt
                 have l10 := T10C.lt
                 have l11 := T11C.lt
                 have lD := hbD.size
                 have T9F := (T9C.below' hbD).below' DDF
                 have T10F := (T10C.below' hbD).below' DDF
                 have T11F := (T11C.below' hbD).below' DDF)
              | (refine wpl_st rfl 45 _ _ rfl (RV.cells { r with w := p2 } s2) rfl _ rfl ((At.new wD _ _).alloc _) (by kernel_rfl) rfl rfl rfl ?_; intro wE E13E OE)
              | (go_at_call 31; refine (HST.out wC RC.out HBA.out.holds.ok SZA.out BKA.out HRN.out).mono ?_; intro e wD heD; obtain ⟨p2, rfl, hBD, hbD⟩ := RefOut.both2 HBA.out.aside RC.out HC.out HWB.out.2.2.2.2.2 HWB.out.2.2.2.1 HWB.out.2.2.2.2.1 heD)
              | (refine wpl_ld rfl 76 _ rfl (Walk.cells y) rfl _ T11C Tryz.underlying76 rfl (by kernel_rfl) rfl ?_)
              | (refine wpl_ld rfl 45 _ rfl (RV.cells { r with w := pA } sA) rfl _ T9C Tryz.underlying45 rfl (by kernel_rfl) rfl ?_)
              | (refine wpl_st rfl 74 _ _ rfl (Walk.cells y2) rfl _ rfl (T10A.only hOB NK10) (by kernel_rfl) rfl rfl rfl ?_; intro wC T10C OC
                 have T9C := (T9A.only hOB NK9).only OC (by show ¬ _ = _; omega)
                 have T11C := (T11A.only hOB NK11).only OC (by show ¬ _ = _; omega)
                 have HC := Lib.hid (Holds.new H4.out hHB OC fun j e => by have e' : j = w6.heap.size := e; omega)
                 have RC := Lib.hid ((HBA.out.ref.aside HBA.out.aside hOB).box (words_two HBA.out.holds.ok) HR4.out (T10A.only hOB NK10) (noTwo_walk _) (by omega) OC)
                 have SZA := Lib.hid (show Sized sA from ⟨by rw [HCC.out.2.1]; exact HSZ.out.1, by rw [HCC.out.2.2.1]; exact HSZ.out.2⟩)
                 have BKA := Lib.hid (show sA.c.buckets = 1 by rw [HCC.out.1]; exact HBK.out))
              | (go_at_call 30; refine (HWS.out wA HBA.out.holds HRN.out).mono ?_; rintro e wB ⟨rfl, hHB, hOB⟩)
              | (refine wpl_ld rfl 74 _ rfl (Walk.cells y) rfl _ T10A Tryz.underlying74 rfl (by kernel_rfl) rfl ?_))
            have DB := keep_below DA hOB HKW.out
            have DC : Below w.heap.size w wC := DB.trans (OC.below DB.size fun j hj e => by have e' : j = w6.heap.size := e; have := HS4.out; omega)
            have DD := DC.trans (hbD.mono DC.size)
            have DF := DD.trans (DDF.mono DD.size)
            have DG : Below w.heap.size w wG := DF.trans (OG.below DF.size fun j hj e => by have e' : j = w4.heap.size := e; have := HS4.out; omega)
            have DH : Below w.heap.size w wH := DG.trans (OH.below DG.size fun j hj e => by have e' : j = w8.heap.size := e; have := HS4.out; omega)
            have DI := DH.trans (hbI.mono DH.size)
            have hBF := hBD.below DDF
            have hBG : Both k { r with w := p2 } s2 wG := ⟨Holds.new H4.out hBF.holds OG fun j e => by have e' : j = w4.heap.size := e; omega, hBF.ref.box (words_two hBF.holds.ok) HR4.out T9F (noTwo_rv _ _) (Nat.le_refl _) OG, hBF.aside⟩
            have hBH : Both k { r with w := p2 } s2 wH := ⟨Holds.new H4.out hBG.holds OH fun j e => by have e' : j = w8.heap.size := e; omega, hBG.ref.box (words_two hBG.holds.ok) HR4.out T11G (noTwo_walk _) (by omega) OH, hBG.aside⟩
            have T9H := T9G.only OH (by show ¬ _ = _; omega)
            have hnew : SAt k r c.lay w w4.heap.size w6.heap.size w8.heap.size s2 y2 p2 wI := ⟨HWB.out.2.2.1.trans HCC.out.1, HWB.out.2.2.2.1.trans HCC.out.2.1, HWB.out.2.2.2.2.1.trans HCC.out.2.2.1, HWB.out.2.2.2.2.2.trans HCC.out.2.2.2, HNN.out, hBH.below hbI, T9H.below' hbI, T10H.below' hbI, T11H.below' hbI, DI⟩
            go_roundg (m - (i + 1))
            case measure => omega
            case rel => exact ⟨i + 1, rfl, by omega, s2, y2, p2, hnew⟩
          · go_upto_region 15 with fail
            have BA := hR.both
            have T9A := hR.t9
            have T10A := hR.t10
            have T11A := hR.t11
            have DA := hR.below
            have hRn := hR.next
            have hc1 := hR.c
            have hc2 := hR.ops
            have hc3 := hR.nodes
            have hc4 := hR.thr
            clear hR
            generalize wr = wA at *
            generalize s = sA at *
            generalize p = pA at *
            have hst := rstep_any (r := { r with w := pA }) (s := sA) y
            have hws := wstep_any (k := k) (s := sA) y
            have hwb := walk_book sA y
            have hnn := step_next BA.holds.ok hRn
            generalize sA.walkStep y = q at *
            obtain ⟨s2, y2⟩ := q
            have HST := Lib.hid hst
            have HWS := Lib.hid hws
            have HWB := Lib.hid hwb
            have HNN := Lib.hid hnn
            have HRN := Lib.hid hRn
            have HBA := Lib.hid BA
            have HCC := Lib.hid (And.intro hc1 (And.intro hc2 (And.intro hc3 hc4)))
            clear hst hws hwb hnn hRn BA hc1 hc2 hc3 hc4
            go_wp2_with (first
              | (go_at_call 32; refine (same10_any y2 wH).mono ?_; rintro e wI ⟨rfl, hbI⟩)
              | (refine wpl_ld rfl 76 _ rfl (Walk.cells y2) rfl _ T11H Tryz.underlying76 rfl (by kernel_rfl) rfl ?_)
              | (refine wpl_ld rfl 74 _ rfl (Walk.cells y2) rfl _ T10H Tryz.underlying74 rfl (by kernel_rfl) rfl ?_)
              | (refine wpl_st rfl 76 _ _ rfl (Walk.cells y2) rfl _ rfl T11G (by kernel_rfl) rfl rfl rfl ?_; intro wH T11H OH
                 have T10H := T10G.only OH (by show ¬ _ = _; omega)
                 have TTT := True.intro)
              | (refine wpl_ld rfl 76 _ rfl (Walk.cells y2) rfl _ E14G Tryz.underlying76 rfl (by kernel_rfl) rfl ?_)
              | (refine wpl_st rfl 45 _ _ rfl (RV.cells { r with w := p2 } s2) rfl _ rfl T9F (by kernel_rfl) rfl rfl rfl ?_; intro wG T9G OG
                 have E14G := E14F.only OG (by show ¬ _ = _; omega)
                 have T10G := T10F.only OG (by show ¬ _ = _; omega)
                 have T11G := T11F.only OG (by show ¬ _ = _; omega))
              | (refine wpl_ld rfl 45 _ rfl (RV.cells { r with w := p2 } s2) rfl _ E13F Tryz.underlying45 rfl (by kernel_rfl) rfl ?_)
              | (refine wpl_st rfl 76 _ _ rfl (Walk.cells y2) rfl _ rfl (At.only (At.new1 wD _ _ _) OE (by show ¬ _ = _; omega)) (by kernel_rfl) rfl rfl rfl ?_; intro wF E14F OF
                 have DDE : Below wD.heap.size wD wE := (below_twice wD _ _).trans (OE.below (by simp; omega) fun j hj e => by have e' : j = wD.heap.size := e; omega)
                 have DDF : Below wD.heap.size wD wF := DDE.trans (OF.below DDE.size fun j hj e => by have e' : j = wD.heap.size + 1 := e; omega)
                 have E13F := E13E.only OF (by show ¬ _ = _; omega)
                 have l9 := T9C.lt
                 have l10 := T10C.lt
                 have l11 := T11C.lt
                 have lD := hbD.size
                 have T9F := (T9C.below' hbD).below' DDF
                 have T10F := (T10C.below' hbD).below' DDF
                 have T11F := (T11C.below' hbD).below' DDF)
              | (refine wpl_st rfl 45 _ _ rfl (RV.cells { r with w := p2 } s2) rfl _ rfl ((At.new wD _ _).alloc _) (by kernel_rfl) rfl rfl rfl ?_; intro wE E13E OE)
              | (go_at_call 31; refine (HST.out wC RC.out HBA.out.holds.ok SZA.out BKA.out HRN.out).mono ?_; intro e wD heD; obtain ⟨p2, rfl, hBD, hbD⟩ := RefOut.both2 HBA.out.aside RC.out HC.out HWB.out.2.2.2.2.2 HWB.out.2.2.2.1 HWB.out.2.2.2.2.1 heD)
              | (refine wpl_ld rfl 76 _ rfl (Walk.cells y) rfl _ T11C Tryz.underlying76 rfl (by kernel_rfl) rfl ?_)
              | (refine wpl_ld rfl 45 _ rfl (RV.cells { r with w := pA } sA) rfl _ T9C Tryz.underlying45 rfl (by kernel_rfl) rfl ?_)
              | (refine wpl_st rfl 74 _ _ rfl (Walk.cells y2) rfl _ rfl (T10A.only hOB NK10) (by kernel_rfl) rfl rfl rfl ?_; intro wC T10C OC
                 have T9C := (T9A.only hOB NK9).only OC (by show ¬ _ = _; omega)
                 have T11C := (T11A.only hOB NK11).only OC (by show ¬ _ = _; omega)
                 have HC := Lib.hid (Holds.new H4.out hHB OC fun j e => by have e' : j = w6.heap.size := e; omega)
                 have RC := Lib.hid ((HBA.out.ref.aside HBA.out.aside hOB).box (words_two HBA.out.holds.ok) HR4.out (T10A.only hOB NK10) (noTwo_walk _) (by omega) OC)
                 have SZA := Lib.hid (show Sized sA from ⟨by rw [HCC.out.2.1]; exact HSZ.out.1, by rw [HCC.out.2.2.1]; exact HSZ.out.2⟩)
                 have BKA := Lib.hid (show sA.c.buckets = 1 by rw [HCC.out.1]; exact HBK.out))
              | (go_at_call 30; refine (HWS.out wA HBA.out.holds HRN.out).mono ?_; rintro e wB ⟨rfl, hHB, hOB⟩)
              | (refine wpl_ld rfl 74 _ rfl (Walk.cells y) rfl _ T10A Tryz.underlying74 rfl (by kernel_rfl) rfl ?_))
            have DB := keep_below DA hOB HKW.out
            have DC : Below w.heap.size w wC := DB.trans (OC.below DB.size fun j hj e => by have e' : j = w6.heap.size := e; have := HS4.out; omega)
            have DD := DC.trans (hbD.mono DC.size)
            have DF := DD.trans (DDF.mono DD.size)
            have DG : Below w.heap.size w wG := DF.trans (OG.below DF.size fun j hj e => by have e' : j = w4.heap.size := e; have := HS4.out; omega)
            have DH : Below w.heap.size w wH := DG.trans (OH.below DG.size fun j hj e => by have e' : j = w8.heap.size := e; have := HS4.out; omega)
            have DI := DH.trans (hbI.mono DH.size)
            have hBF := hBD.below DDF
            have hBG : Both k { r with w := p2 } s2 wG := ⟨Holds.new H4.out hBF.holds OG fun j e => by have e' : j = w4.heap.size := e; omega, hBF.ref.box (words_two hBF.holds.ok) HR4.out T9F (noTwo_rv _ _) (Nat.le_refl _) OG, hBF.aside⟩
            have hBH : Both k { r with w := p2 } s2 wH := ⟨Holds.new H4.out hBG.holds OH fun j e => by have e' : j = w8.heap.size := e; omega, hBG.ref.box (words_two hBG.holds.ok) HR4.out T11G (noTwo_walk _) (by omega) OH, hBG.aside⟩
            have T9H := T9G.only OH (by show ¬ _ = _; omega)
            have hnew : SAt k r c.lay w w4.heap.size w6.heap.size w8.heap.size s2 y2 p2 wI := ⟨HWB.out.2.2.1.trans HCC.out.1, HWB.out.2.2.2.1.trans HCC.out.2.1, HWB.out.2.2.2.2.1.trans HCC.out.2.2.1, HWB.out.2.2.2.2.2.trans HCC.out.2.2.2, HNN.out, hBH.below hbI, T9H.below' hbI, T10H.below' hbI, T11H.below' hbI, DI⟩
            go_roundg (m - (i + 1))
            case measure => omega
            case rel => exact ⟨i + 1, rfl, by omega, s2, y2, p2, hnew⟩
        · go_upto_region 15 with fail
          have BA := hR.both
          have T9A := hR.t9
          have T10A := hR.t10
          have T11A := hR.t11
          have DA := hR.below
          have hRn := hR.next
          have hc1 := hR.c
          have hc2 := hR.ops
          have hc3 := hR.nodes
          have hc4 := hR.thr
          clear hR
          generalize wr = wA at *
          generalize s = sA at *
          generalize p = pA at *
          have hst := rstep_any (r := { r with w := pA }) (s := sA) y
          have hws := wstep_any (k := k) (s := sA) y
          have hwb := walk_book sA y
          have hnn := step_next BA.holds.ok hRn
          generalize sA.walkStep y = q at *
          obtain ⟨s2, y2⟩ := q
          have HST := Lib.hid hst
          have HWS := Lib.hid hws
          have HWB := Lib.hid hwb
          have HNN := Lib.hid hnn
          have HRN := Lib.hid hRn
          have HBA := Lib.hid BA
          have HCC := Lib.hid (And.intro hc1 (And.intro hc2 (And.intro hc3 hc4)))
          clear hst hws hwb hnn hRn BA hc1 hc2 hc3 hc4
          go_wp2_with (first
            | (go_at_call 32; refine (same10_any y2 wH).mono ?_; rintro e wI ⟨rfl, hbI⟩)
            | (refine wpl_ld rfl 76 _ rfl (Walk.cells y2) rfl _ T11H Tryz.underlying76 rfl (by kernel_rfl) rfl ?_)
            | (refine wpl_ld rfl 74 _ rfl (Walk.cells y2) rfl _ T10H Tryz.underlying74 rfl (by kernel_rfl) rfl ?_)
            | (refine wpl_st rfl 76 _ _ rfl (Walk.cells y2) rfl _ rfl T11G (by kernel_rfl) rfl rfl rfl ?_; intro wH T11H OH
               have T10H := T10G.only OH (by show ¬ _ = _; omega)
               have TTT := True.intro)
            | (refine wpl_ld rfl 76 _ rfl (Walk.cells y2) rfl _ E14G Tryz.underlying76 rfl (by kernel_rfl) rfl ?_)
            | (refine wpl_st rfl 45 _ _ rfl (RV.cells { r with w := p2 } s2) rfl _ rfl T9F (by kernel_rfl) rfl rfl rfl ?_; intro wG T9G OG
               have E14G := E14F.only OG (by show ¬ _ = _; omega)
               have T10G := T10F.only OG (by show ¬ _ = _; omega)
               have T11G := T11F.only OG (by show ¬ _ = _; omega))
            | (refine wpl_ld rfl 45 _ rfl (RV.cells { r with w := p2 } s2) rfl _ E13F Tryz.underlying45 rfl (by kernel_rfl) rfl ?_)
            | (refine wpl_st rfl 76 _ _ rfl (Walk.cells y2) rfl _ rfl (At.only (At.new1 wD _ _ _) OE (by show ¬ _ = _; omega)) (by kernel_rfl) rfl rfl rfl ?_; intro wF E14F OF
               have DDE : Below wD.heap.size wD wE := (below_twice wD _ _).trans (OE.below (by simp; omega) fun j hj e => by have e' : j = wD.heap.size := e; omega)
               have DDF : Below wD.heap.size wD wF := DDE.trans (OF.below DDE.size fun j hj e => by have e' : j = wD.heap.size + 1 := e; omega)
               have E13F := E13E.only OF (by show ¬ _ = _; omega)
               have l9 := T9C.lt
               have l10 := T10C.lt
               have l11 := T11C.lt
               have lD := hbD.size
               have T9F := (T9C.below' hbD).below' DDF
               have T10F := (T10C.below' hbD).below' DDF
               have T11F := (T11C.below' hbD).below' DDF)
            | (refine wpl_st rfl 45 _ _ rfl (RV.cells { r with w := p2 } s2) rfl _ rfl ((At.new wD _ _).alloc _) (by kernel_rfl) rfl rfl rfl ?_; intro wE E13E OE)
            | (go_at_call 31; refine (HST.out wC RC.out HBA.out.holds.ok SZA.out BKA.out HRN.out).mono ?_; intro e wD heD; obtain ⟨p2, rfl, hBD, hbD⟩ := RefOut.both2 HBA.out.aside RC.out HC.out HWB.out.2.2.2.2.2 HWB.out.2.2.2.1 HWB.out.2.2.2.2.1 heD)
            | (refine wpl_ld rfl 76 _ rfl (Walk.cells y) rfl _ T11C Tryz.underlying76 rfl (by kernel_rfl) rfl ?_)
            | (refine wpl_ld rfl 45 _ rfl (RV.cells { r with w := pA } sA) rfl _ T9C Tryz.underlying45 rfl (by kernel_rfl) rfl ?_)
            | (refine wpl_st rfl 74 _ _ rfl (Walk.cells y2) rfl _ rfl (T10A.only hOB NK10) (by kernel_rfl) rfl rfl rfl ?_; intro wC T10C OC
               have T9C := (T9A.only hOB NK9).only OC (by show ¬ _ = _; omega)
               have T11C := (T11A.only hOB NK11).only OC (by show ¬ _ = _; omega)
               have HC := Lib.hid (Holds.new H4.out hHB OC fun j e => by have e' : j = w6.heap.size := e; omega)
               have RC := Lib.hid ((HBA.out.ref.aside HBA.out.aside hOB).box (words_two HBA.out.holds.ok) HR4.out (T10A.only hOB NK10) (noTwo_walk _) (by omega) OC)
               have SZA := Lib.hid (show Sized sA from ⟨by rw [HCC.out.2.1]; exact HSZ.out.1, by rw [HCC.out.2.2.1]; exact HSZ.out.2⟩)
               have BKA := Lib.hid (show sA.c.buckets = 1 by rw [HCC.out.1]; exact HBK.out))
            | (go_at_call 30; refine (HWS.out wA HBA.out.holds HRN.out).mono ?_; rintro e wB ⟨rfl, hHB, hOB⟩)
            | (refine wpl_ld rfl 74 _ rfl (Walk.cells y) rfl _ T10A Tryz.underlying74 rfl (by kernel_rfl) rfl ?_))
          have DB := keep_below DA hOB HKW.out
          have DC : Below w.heap.size w wC := DB.trans (OC.below DB.size fun j hj e => by have e' : j = w6.heap.size := e; have := HS4.out; omega)
          have DD := DC.trans (hbD.mono DC.size)
          have DF := DD.trans (DDF.mono DD.size)
          have DG : Below w.heap.size w wG := DF.trans (OG.below DF.size fun j hj e => by have e' : j = w4.heap.size := e; have := HS4.out; omega)
          have DH : Below w.heap.size w wH := DG.trans (OH.below DG.size fun j hj e => by have e' : j = w8.heap.size := e; have := HS4.out; omega)
          have DI := DH.trans (hbI.mono DH.size)
          have hBF := hBD.below DDF
          have hBG : Both k { r with w := p2 } s2 wG := ⟨Holds.new H4.out hBF.holds OG fun j e => by have e' : j = w4.heap.size := e; omega, hBF.ref.box (words_two hBF.holds.ok) HR4.out T9F (noTwo_rv _ _) (Nat.le_refl _) OG, hBF.aside⟩
          have hBH : Both k { r with w := p2 } s2 wH := ⟨Holds.new H4.out hBG.holds OH fun j e => by have e' : j = w8.heap.size := e; omega, hBG.ref.box (words_two hBG.holds.ok) HR4.out T11G (noTwo_walk _) (by omega) OH, hBG.aside⟩
          have T9H := T9G.only OH (by show ¬ _ = _; omega)
          have hnew : SAt k r c.lay w w4.heap.size w6.heap.size w8.heap.size s2 y2 p2 wI := ⟨HWB.out.2.2.1.trans HCC.out.1, HWB.out.2.2.2.1.trans HCC.out.2.1, HWB.out.2.2.2.2.1.trans HCC.out.2.2.1, HWB.out.2.2.2.2.2.trans HCC.out.2.2.2, HNN.out, hBH.below hbI, T9H.below' hbI, T10H.below' hbI, T11H.below' hbI, DI⟩
          go_roundg (m - (i + 1))
          case measure => omega
          case rel => exact ⟨i + 1, rfl, by omega, s2, y2, p2, hnew⟩
      · have e : i = m := by omega
        clear e
        go_wp2_with (first
          | (go_at_call 33; refine (equal10_any (k := k) (r := { r with w := p }) (s := s) _ hR.both).mono ?_; rintro e wz ⟨rfl, hbz⟩)
          | (refine wpl_ldg (by rfl) 45 _ rfl (RV.cells { r with w := p } s) rfl _ hR.t9 Tryz.underlying45 rfl (by kernel_rfl) rfl ?_))
        go_ret
        exact ⟨rfl, hR.below.trans (hbz.mono hR.below.size)⟩

end Go.Proofs.YtccmjljlfgbicaaGreat

