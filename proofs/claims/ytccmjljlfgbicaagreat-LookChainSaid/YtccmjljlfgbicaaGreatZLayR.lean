/- Contract of corrieref09.Lay: the document's world of a scene. Printed by laygen.py. -/
import Derived.Test.YtccmjljlfgbicaaGreatZR2
import Derived.Test.YtccmjljlfgbicaaGreatRefG4
import Derived.Test.YtccmjljlfgbicaaGreatRefN
import Derived.Test.YtccmjljlfgbicaaGreatSorted
import Derived.Deep.LoopGhost
import Derived.Deep.Cut
namespace Go.Proofs.YtccmjljlfgbicaaGreat
open Go.ChangeShapes Go.WideShapes Go.ChangeAt Go.RowKit

theorem BookFr.mono {n n' : Nat} {r ρ : RV} (h : BookFr n r ρ) (hn : n' ≤ n) : BookFr n' r ρ :=
  ⟨h.cs.imp id fun ⟨g, a, b⟩ => ⟨g, a, by omega⟩, h.is.imp id fun ⟨g, a, b⟩ => ⟨g, a, by omega⟩, h.ms.imp id fun ⟨g, a, b⟩ => ⟨g, a, by omega⟩, h.os.imp id fun ⟨g, a, b⟩ => ⟨g, a, by omega⟩, h.ns.imp id fun ⟨g, a, b⟩ => ⟨g, a, by omega⟩⟩
theorem ops_begin (s : St) (n : Int) (c : GCall) : (s.begin n c).1.ops.length ≤ s.ops.length + 1 := by
  unfold St.begin
  repeat' split
  all_goals simp
theorem nodes_make (s : St) (n op : Int) : (s.make n op).1.nodes.length ≤ s.nodes.length + 1 := by
  unfold St.make
  repeat' split
  all_goals simp
theorem at_cells {w : World} {T : Nat} {t : TypeId} {a b : Array Value} (h : At w T t a) (e : a = b) : At w T t b := e ▸ h

set_option maxRecDepth 100000 in
set_option maxHeartbeats 4000000 in
theorem rlay_any {x : Scene} {v : Value} {ia ca : Option Addr} {ic cc : Nat} (w : World) (hx : x.fits) (hlen : x.items.length ≤ 12) (hcl : x.calls.length ≤ 6) (hS : SceneAt w v x ia ca ic cc) :
    Calls Tryz.prog 16 #[v] w fun e w' => ∃ r : RV, e = .returned (r.val x.lay) ∧ RefIn w' r x.lay ∧ Below w.heap.size w w' ∧ RowsOff r (fun j => j < w.heap.size) ∧ ∀ b o, r.w.1 = some ⟨b, o, none⟩ → ¬ b < w.heap.size := by
  obtain ⟨rfl, hI, hC⟩ := hS
  have HX := Lib.hid hx
  have HC := Lib.hid hC
  have HI := Lib.hid hI
  have HF := Lib.hid hx.fuel
  clear hx hC hI
  have A1 := (At.new w 25 #[.int .u8 x.fuel, .slice ia x.items.length ic, .slice ca x.calls.length cc]).alloc (.cells zero17 45)
  have A2 := At.new1 w (.cells #[.int .u8 x.fuel, .slice ia x.items.length ic, .slice ca x.calls.length cc] 25) 45 zero17
  go_enter Tryz.func16, Tryz.ntmps16
  go_wp2_with (first
    | (go_at_call 56; refine (sorted_any w3 (HI.out.below D3) hlen).mono ?_; rintro e w5 ⟨v5, rfl, hR5, hb5⟩; obtain ⟨ao, vc, rfl, hao⟩ := row_any hR5)
    | (refine wpl_ld rfl 25 _ rfl #[.int .u8 x.fuel, .slice ia x.items.length ic, .slice ca x.calls.length cc] rfl _ B3 Tryz.underlying25 rfl (by kernel_rfl) rfl ?_)
    | (refine wpl_st rfl 45 _ _ rfl (r0.cells (St.new x.conf)) rfl _ rfl (At.new w2 _ _) (by kernel_rfl) rfl rfl rfl ?_; intro w3 T3 O3
       have l12 := hb1.size
       have l22 := hb2.size
       simp only [World.size_alloc] at l12
       have D2 : Below w.heap.size w w2 := (below_twice w _ _).trans ((hb1.mono (by simp; omega)).trans (hb2.mono (by omega)))
       have D23 : Below w2.heap.size w2 w3 := ((Below.refl _ w2).alloc (Nat.le_refl _) _).trans (O3.below (by simp) fun j hj e => by have e' : j = w2.heap.size := e; omega)
       have D3 := D2.trans (D23.mono D2.size)
       have B3 := ((A1.below' hb1).below' hb2).below' D23
       have B32 := ((A2.below' hb1).below' hb2).below' D23)
    | (go_at_call 62; refine (rwnew_any x.conf w1 (conf_may HF.out)).mono ?_; rintro e w2 ⟨r0, rfl, hR0, hb2, hfw0, hf0⟩)
    | (go_at_call 55; refine (sconf_any _ HF.out).mono ?_; rintro e w1 ⟨rfl, hb1⟩)
    | (refine wpl_ld rfl 25 _ rfl #[.int .u8 x.fuel, .slice ia x.items.length ic, .slice ca x.calls.length cc] rfl _ A1 Tryz.underlying25 rfl (by kernel_rfl) rfl ?_))
  have lT : w2.heap.size < w3.heap.size := T3.lt
  have hL0 : LayAt w2.heap.size (w.heap.size + 2) w5 r0 (St.new x.conf) w5 := ⟨T3.below' hb5, (hR0.below D23).below hb5, Only.refl _ _, (rows_lt hR0.book (by simp [St.new]; rw [show x.conf.threads = 3 from rfl]; decide)).imp fun b e k => by have e' : b = w2.heap.size := e; omega, (RowsOff.nones _).fresh hf0 fun b e => by have e' : b < w.heap.size + 2 := e; omega, hfw0.off (N := fun b => b < w.heap.size + 2) (fun _ _ e => (by cases e)) (fun b e => by have e' : b < w.heap.size + 2 := e; omega), by omega⟩
  have hao' : 0 < x.items.length → ∃ g, ao = some ⟨g, 0, none⟩ ∧ ¬ g = w2.heap.size ∧ g < w5.heap.size := fun h0 => by
    obtain ⟨g, h1, h2, h3⟩ := hao h0
    exact ⟨g, h1, by omega, h3⟩
  have HR5 := Lib.hid hR5
  have HAO := Lib.hid hao'
  have HL0 := Lib.hid hL0
  have D5 := D3.trans (hb5.mono D3.size)
  have S5 := B3.below' hb5
  have S52 := B32.below' hb5
  have lw2 : w.heap.size + 1 < w2.heap.size := by omega
  have l35 := hb5.size
  have HO0 := Lib.hid (ok_new (conf_may HF.out))
  clear hao hao' hR5 hL0 hb1 hb2 hb5 hf0 hR0 T3 O3 A1 A2 B3 B32 D23 l12
  go_loopg [6, 7, 8] x.items.length (fun gg v6 v7 v8 wr => ∃ i : Nat, v8 = .int .i64 i ∧ i + gg = x.items.length ∧ ∃ s at_ op r, (x.sorted.take i).foldl layItem (St.new x.conf, 1, 0) = (s, at_, op) ∧ v6 = .int .i64 at_ ∧ v7 = .int .i64 op ∧ LayAt w2.heap.size (w.heap.size + 2) w5 r s wr ∧ s.ok ∧ s.ops.length ≤ i ∧ s.nodes.length ≤ i)
  case atStart => exact ⟨0, rfl, by omega, _, _, _, _, rfl, rfl, rfl, HL0.out, HO0.out, Nat.le_refl _, Nat.le_refl _⟩
  case round =>
    obtain ⟨i, rfl, hi, s, at_, op, r, hs, rfl, rfl, hL, hok, hol, hnl⟩ := hrel
    have T0 : At wr w2.heap.size 45 (r.cells s) := hL.at_
    have S0 : At wr w.heap.size 25 #[.int .u8 x.fuel, .slice ia x.items.length ic, .slice ca x.calls.length cc] := S5.only hL.only (by show ¬ w.heap.size = w2.heap.size; omega)
    by_cases hlt : i < x.items.length
    · obtain ⟨it, hit⟩ : ∃ it, x.sorted[i]? = some it := ⟨_, List.getElem?_eq_getElem (by rw [sorted_len]; exact hlt)⟩
      obtain ⟨g, rfl, hgo, hgl⟩ := HAO.out (by omega)
      obtain ⟨n0, n1, n2, n3, n4⟩ := row_item HR5.out hL.only hgo hit
      have HIT := Lib.hid hit
      have HS := Lib.hid hs
      have HFT := Lib.hid (sorted_fits HX.out.items it (List.mem_of_getElem? hit))
      have hgw : g < wr.heap.size := Nat.lt_of_lt_of_le hgl hL.only.size
      clear hit hs
      cases hag : it.again with
      | false =>
        rw [hag] at n4
        have HTh := Lib.hid (show 0 < s.thr.length by have := hok.thr; have := may_bounds hok.may; omega)
        have HAG := Lib.hid hag
        clear hag
        generalize hbg : s.begin 0 ⟨1, it.key, it.val, 0⟩ = bg at *
        obtain ⟨s1, nn, bb⟩ := bg
        have HBG := Lib.hid hbg
        clear hbg
        have hbs := begin_same s 0 ⟨1, it.key, it.val, 0⟩
        rw [HBG.out] at hbs
        have hok1 : s1.ok := by have := begin_ok hok 0 (c := ⟨1, it.key, it.val, 0⟩) ⟨HFT.out.1.1, HFT.out.1.2, HFT.out.2.1.1, HFT.out.2.1.2⟩; rw [HBG.out] at this; exact this
        have hol1 : s1.ops.length ≤ i + 1 := by have := ops_begin s 0 ⟨1, it.key, it.val, 0⟩; rw [HBG.out] at this; have h' : s1.ops.length ≤ s.ops.length + 1 := this; omega
        have HTh1 := Lib.hid (show 0 < s1.thr.length by have := hok1.thr; have := may_bounds hok1.may; omega)
        have HBS := Lib.hid hbs
        clear hbs
        go_wp2_with fail
        refine wp_region_J (l := [_, _, _, _, _, _, _, _, _, _, _, _, _, _, _, _, _, _, _, _, _, _]) (CallG 13 3 43 zero10 (fun j v => match j with | 0 => v = .pointer (some ⟨w2.heap.size, 7, none⟩) | 1 => v = .agg (r.bcells s) | 2 => v = .slice (some ⟨g, 0, none⟩) x.items.length vc | 3 => v = .int .i64 i | 4 => v = .pointer (some ⟨g, i * 5, none⟩) | 5 => v = .pointer (some ⟨g, i * 5, none⟩) | 6 => v = .int .u64 it.key | 7 => v = .slice (some ⟨g, 0, none⟩) x.items.length vc | 8 => v = .int .i64 i | 9 => v = .pointer (some ⟨g, i * 5, none⟩) | 10 => v = .pointer (some ⟨g, i * 5 + 1, none⟩) | 11 => v = .int .u64 it.val | 12 => v = .agg #[.int .i64 1, .int .u64 it.key, .int .u64 it.val, .int .i64 0] | _ => False) (fun ρ => [.agg (ρ.bcells s1), .int .i64 nn, .int .i64 bb]) (fun ρ => ρ.bcells s1) (fun ρ w' => BookIn w' ρ s1 ∧ BookFr wr.heap.size r ρ) wr) (by kernel_rfl) (by kernel_rfl) (fun us => CallG.start us) ⟨?_, ?_, ?_, ?_, ?_, ?_, ?_, ?_, ?_, ?_, ?_, ?_, ?_, ?_, ?_, ?_, ?_, ?_, ?_, ?_, ?_, ?_, trivial⟩ ?_
        · intro dn us w6 A hev hy hG hdn hdep K hK
          have e0 : A.eval (.tmp 3) = .pointer (some ⟨w2.heap.size, 0, none⟩) := by rw [hev]; rfl
          rw [if_pos (by rfl)]
          unfold Oper.wp execOp
          generalize A.eval = ev at e0 ⊢
          go_simp
          exact hK _ _ (hG.first (by decide) rfl)
        · intro dn us w6 A hev hy hG hdn hdep K hK
          have d0 : dn 0 = true := allD_mem hdep (by decide)
          have e0 : A.eval (.tmp 43) = .pointer (some ⟨w2.heap.size, 7, none⟩) := by rw [hev]; exact hG.pre 0 (by decide) d0
          refine step_list (wpl_ld rfl 43 (.tmp 43) rfl (r.bcells s) e0 _ (T0.only hG.only id) Tryz.underlying43 rfl (by kernel_rfl) rfl ⟨rfl, ?_⟩)
          exact hK _ _ (hG.first (by decide) rfl)
        · intro dn us w6 A hev hy hG hdn hdep K hK
          have e0 : A.eval (.tmp 5) = .slice (some ⟨g, 0, none⟩) x.items.length vc := by rw [hev]; rfl
          rw [if_pos (by rfl)]
          unfold Oper.wp execOp
          generalize A.eval = ev at e0 ⊢
          go_simp
          exact hK _ _ (hG.first (by decide) rfl)
        · intro dn us w6 A hev hy hG hdn hdep K hK
          have e0 : A.eval (.tmp 8) = .int .i64 i := by rw [hev]; rfl
          rw [if_pos (by rfl)]
          unfold Oper.wp execOp
          generalize A.eval = ev at e0 ⊢
          go_simp
          exact hK _ _ (hG.first (by decide) rfl)
        · intro dn us w6 A hev hy hG hdn hdep K hK
          have d2 : dn 2 = true := allD_mem hdep (by decide)
          have d3 : dn 3 = true := allD_mem hdep (by decide)
          have e0 : A.eval (.tmp 45) = .slice (some ⟨g, 0, none⟩) x.items.length vc := by rw [hev]; exact hG.pre 2 (by decide) d2
          have e1 : A.eval (.tmp 46) = .int .i64 i := by rw [hev]; exact hG.pre 3 (by decide) d3
          rw [if_pos (by rfl)]
          unfold Oper.wp execOp
          generalize A.eval = ev at e0 e1 ⊢
          go_simp
          exact hK _ _ (hG.first (by decide) rfl)
        · intro dn us w6 A hev hy hG hdn hdep K hK
          have d4 : dn 4 = true := allD_mem hdep (by decide)
          have e0 : A.eval (.tmp 47) = .pointer (some ⟨g, i * 5, none⟩) := by rw [hev]; exact hG.pre 4 (by decide) d4
          rw [if_pos (by rfl)]
          unfold Oper.wp execOp
          generalize A.eval = ev at e0 ⊢
          go_simp
          exact hK _ _ (hG.first (by decide) rfl)
        · intro dn us w6 A hev hy hG hdn hdep K hK
          have d5 : dn 5 = true := allD_mem hdep (by decide)
          have e0 : A.eval (.tmp 48) = .pointer (some ⟨g, i * 5, none⟩) := by rw [hev]; exact hG.pre 5 (by decide) d5
          have cc0 : w6.cell? ⟨g, i * 5, none⟩ = some (.int .u64 it.key) := by rw [hG.only.cell hgw id]; exact n0
          rw [if_pos (by rfl)]
          unfold Oper.wp execOp
          generalize A.eval = ev at e0 ⊢
          go_simp
          exact hK _ _ (hG.first (by decide) rfl)
        · intro dn us w6 A hev hy hG hdn hdep K hK
          have e0 : A.eval (.tmp 5) = .slice (some ⟨g, 0, none⟩) x.items.length vc := by rw [hev]; rfl
          rw [if_pos (by rfl)]
          unfold Oper.wp execOp
          generalize A.eval = ev at e0 ⊢
          go_simp
          exact hK _ _ (hG.first (by decide) rfl)
        · intro dn us w6 A hev hy hG hdn hdep K hK
          have e0 : A.eval (.tmp 8) = .int .i64 i := by rw [hev]; rfl
          rw [if_pos (by rfl)]
          unfold Oper.wp execOp
          generalize A.eval = ev at e0 ⊢
          go_simp
          exact hK _ _ (hG.first (by decide) rfl)
        · intro dn us w6 A hev hy hG hdn hdep K hK
          have d7 : dn 7 = true := allD_mem hdep (by decide)
          have d8 : dn 8 = true := allD_mem hdep (by decide)
          have e0 : A.eval (.tmp 50) = .slice (some ⟨g, 0, none⟩) x.items.length vc := by rw [hev]; exact hG.pre 7 (by decide) d7
          have e1 : A.eval (.tmp 51) = .int .i64 i := by rw [hev]; exact hG.pre 8 (by decide) d8
          rw [if_pos (by rfl)]
          unfold Oper.wp execOp
          generalize A.eval = ev at e0 e1 ⊢
          go_simp
          exact hK _ _ (hG.first (by decide) rfl)
        · intro dn us w6 A hev hy hG hdn hdep K hK
          have d9 : dn 9 = true := allD_mem hdep (by decide)
          have e0 : A.eval (.tmp 52) = .pointer (some ⟨g, i * 5, none⟩) := by rw [hev]; exact hG.pre 9 (by decide) d9
          rw [if_pos (by rfl)]
          unfold Oper.wp execOp
          generalize A.eval = ev at e0 ⊢
          go_simp
          exact hK _ _ (hG.first (by decide) rfl)
        · intro dn us w6 A hev hy hG hdn hdep K hK
          have d10 : dn 10 = true := allD_mem hdep (by decide)
          have e0 : A.eval (.tmp 53) = .pointer (some ⟨g, i * 5 + 1, none⟩) := by rw [hev]; exact hG.pre 10 (by decide) d10
          have cc0 : w6.cell? ⟨g, i * 5 + 1, none⟩ = some (.int .u64 it.val) := by rw [hG.only.cell hgw id]; exact n1
          rw [if_pos (by rfl)]
          unfold Oper.wp execOp
          generalize A.eval = ev at e0 ⊢
          go_simp
          exact hK _ _ (hG.first (by decide) rfl)
        · intro dn us w6 A hev hy hG hdn hdep K hK
          have d6 : dn 6 = true := allD_mem hdep (by decide)
          have d11 : dn 11 = true := allD_mem hdep (by decide)
          have e0 : A.eval (.tmp 49) = .int .u64 it.key := by rw [hev]; exact hG.pre 6 (by decide) d6
          have e1 : A.eval (.tmp 54) = .int .u64 it.val := by rw [hev]; exact hG.pre 11 (by decide) d11
          have e2 : A.eval (.const (.int .i64 1)) = .int .i64 1 := by rw [hev]; rfl
          rw [if_pos (by rfl)]
          unfold Oper.wp execOp
          generalize A.eval = ev at e0 e1 e2 ⊢
          go_simp
          exact hK _ _ (hG.first (by decide) rfl)
        · intro dn us w6 A hev hy hG hdn hdep K hK
          have d1 : dn 1 = true := allD_mem hdep (by decide)
          have d12 : dn 12 = true := allD_mem hdep (by decide)
          have e0 : A.eval (.tmp 44) = r.book s := by rw [hev]; exact hG.pre 1 (by decide) d1
          have e1 : A.eval (.tmp 55) = GCall.v ⟨1, it.key, it.val, 0⟩ := by rw [hev]; exact hG.pre 12 (by decide) d12
          have e2 : A.eval (.const (.int .i64 0)) = .int .i64 0 := by rw [hev]; rfl
          have e3 : A.eval (.func 63) = .func (.func 63) #[] #[] := by rw [hev]; rfl
          have hB6 : BookIn w6 r s := hL.ref.book.only hG.only ⟨fun _ _ _ => id, fun _ _ _ => id, fun _ _ _ => id, fun _ _ _ => id, fun _ _ _ => id⟩
          rw [if_pos (by rfl)]
          unfold Oper.wp execOp
          generalize A.eval = ev at e0 e1 e2 e3 ⊢
          go_simp
          have hcon := rbegin_any 0 ⟨1, it.key, it.val, 0⟩ w6 hB6 hok (by omega)
          rw [HBG.out] at hcon
          refine hcon.mono ?_
          rintro e w7 ⟨ρ, rfl, hBρ, hb, hf⟩
          exact hK _ _ (hG.called hdn hb ⟨hBρ, hf.mono hG.only.size⟩ fun g' hg1 hg2 _ w'' hO => ⟨hBρ.only hO ((rows_lt hL.ref.book HTh.out).imp (fun b e k => by have e' : b = g' := e; omega) |>.fresh hf fun b e => by have e' : b = g' := e; omega), hf.mono hG.only.size⟩)
        · intro dn us w6 A hev hy hG hdn hdep K hK
          have d13 : dn 13 = true := allD_mem hdep (by decide)
          have e0 : A.eval (.tmp 56) = us 13 := by rw [hev]; rfl
          refine step_list (wpl_move rfl _ (.inl rfl) ⟨rfl, ?_⟩)
          rw [e0]
          exact hK _ _ (hG.moved d13)
        · intro dn us w6 A hev hy hG hdn hdep K hK
          have d14 : dn 14 = true := allD_mem hdep (by decide)
          obtain ⟨d13, u14⟩ := hG.mv d14
          obtain ⟨ρ, u13, _⟩ := hG.call d13
          have e0 : A.eval (.tmp 42) = .tuple #[.agg (ρ.bcells s1), .int .i64 nn, .int .i64 bb] := by rw [hev]; exact u14.trans u13
          rw [if_pos (by rfl)]
          unfold Oper.wp execOp
          generalize A.eval = ev at e0 ⊢
          go_simp
          refine hK _ _ (hG.took (i := 0) (by decide) d13 fun ρ' hρ' => ?_)
          rw [u13] at hρ'
          injection hρ' with hρ'
          rw [← List.toArray_inj hρ']
          rfl
        · intro dn us w6 A hev hy hG hdn hdep K hK
          have d14 : dn 14 = true := allD_mem hdep (by decide)
          obtain ⟨d13, u14⟩ := hG.mv d14
          obtain ⟨ρ, u13, _⟩ := hG.call d13
          have e0 : A.eval (.tmp 42) = .tuple #[.agg (ρ.bcells s1), .int .i64 nn, .int .i64 bb] := by rw [hev]; exact u14.trans u13
          rw [if_pos (by rfl)]
          unfold Oper.wp execOp
          generalize A.eval = ev at e0 ⊢
          go_simp
          refine hK _ _ (hG.took (i := 1) (by decide) d13 fun ρ' hρ' => ?_)
          rw [u13] at hρ'
          injection hρ' with hρ'
          rw [← List.toArray_inj hρ']
          rfl
        · intro dn us w6 A hev hy hG hdn hdep K hK
          have d14 : dn 14 = true := allD_mem hdep (by decide)
          obtain ⟨d13, u14⟩ := hG.mv d14
          obtain ⟨ρ, u13, _⟩ := hG.call d13
          have e0 : A.eval (.tmp 42) = .tuple #[.agg (ρ.bcells s1), .int .i64 nn, .int .i64 bb] := by rw [hev]; exact u14.trans u13
          rw [if_pos (by rfl)]
          unfold Oper.wp execOp
          generalize A.eval = ev at e0 ⊢
          go_simp
          refine hK _ _ (hG.took (i := 2) (by decide) d13 fun ρ' hρ' => ?_)
          rw [u13] at hρ'
          injection hρ' with hρ'
          rw [← List.toArray_inj hρ']
          rfl
        · intro dn us w6 A hev hy hG hdn hdep K hK
          rw [if_pos (by rfl)]
          unfold Oper.wp execOp
          go_simp
          exact hK _ _ (hG.boxed hdn fun ρ ⟨a, b⟩ => ⟨⟨a.below ((Below.refl _ _).alloc (Nat.le_refl _) _), b⟩, fun w' hO => ⟨(a.below ((Below.refl _ _).alloc (Nat.le_refl _) _)).only hO ((rows_lt a HTh1.out).imp fun b e k => by have e' : b = w6.heap.size := e; omega), b⟩⟩)
        · intro dn us w6 A hev hy hG hdn hdep K hK
          have d15 : dn 15 = true := allD_mem hdep (by decide)
          have d18 : dn 18 = true := allD_mem hdep (by decide)
          obtain ⟨d13, u15⟩ := hG.ext 0 (by decide) d15
          obtain ⟨ρ, u13, _⟩ := hG.call d13
          obtain ⟨g9, u18, _, _, a9, _⟩ := hG.box d18
          have v15 : us 15 = .agg (ρ.bcells s1) := by have := u15 ρ u13; simpa using this
          have e0 : A.eval (.tmp 9) = .pointer (some ⟨g9, 0, none⟩) := by rw [hev]; exact u18
          have e1 : A.eval (.tmp 57) = .agg (ρ.bcells s1) := by rw [hev]; exact v15
          refine step_list (wpl_st rfl 43 (.tmp 9) (.tmp 57) rfl (ρ.bcells s1) e0 _ e1 (a9 hdn) (by kernel_rfl) rfl rfl rfl fun w7 A7 O7 => ⟨rfl, ?_⟩)
          refine hK _ _ (hG.laid d13 d18 u18 O7 (fun ρ' hρ' => ?_) _)
          have hv := u15 ρ' hρ'
          have hv' : Value.agg (ρ.bcells s1) = .agg (ρ'.bcells s1) := by rw [← v15]; simpa using hv
          injection hv' with hv'
          exact at_cells A7 hv'
        · intro dn us w6 A hev hy hG hdn hdep K hK
          have d16 : dn 16 = true := allD_mem hdep (by decide)
          obtain ⟨d13, u1⟩ := hG.ext 1 (by decide) d16
          have e0 : A.eval (.tmp 58) = us 16 := by rw [hev]; rfl
          refine step_list (wpl_move rfl _ (.inr rfl) ⟨rfl, ?_⟩)
          rw [e0]
          exact hK _ _ (hG.said (i := 1) (by decide) (by decide) d13 u1)
        · intro dn us w6 A hev hy hG hdn hdep K hK
          have d17 : dn 17 = true := allD_mem hdep (by decide)
          obtain ⟨d13, u1⟩ := hG.ext 2 (by decide) d17
          have e0 : A.eval (.tmp 59) = us 17 := by rw [hev]; rfl
          refine step_list (wpl_move rfl _ (.inr rfl) ⟨rfl, ?_⟩)
          rw [e0]
          exact hK _ _ (hG.said (i := 2) (by decide) (by decide) d13 u1)
        intro dn us w6 hG hall
        obtain ⟨ρ, u13, ⟨hBρ, hfρ⟩, _⟩ := hG.call (hall 13 (by decide))
        obtain ⟨g9, u18, g9a, g9b, _, a9⟩ := hG.box (hall 18 (by decide))
        have A9 : At w6 g9 43 (ρ.bcells s1) := (a9 (hall 19 (by decide))).2 ρ u13
        have u20 : us 20 = .int .i64 nn := by have := (hG.asg 1 (by decide) (by decide) (hall 20 (by decide))).2 ρ u13; simpa using this
        have O6 := hG.only
        have T6 : At w6 w2.heap.size 45 (r.cells s) := T0.only O6 id
        simp only [fillA, fillT, Nat.reduceAdd, List.setIfInBounds_toArray, List.set_cons_zero, List.set_cons_succ, u18, u20]
        clear hG hall u13 u18 u20 a9
        go_wp2_with (first
          | (refine wpl_st rfl 43 _ _ rfl #[.int .i64 s.c.threads, .int .i64 s.c.buckets, .int .i64 s.c.inserts, .int .i64 s.c.fuel, .int .i64 s.c.calls, .slice r.w.1 s.words.length r.w.2, .int .i64 s.steps, .int .i64 s1.c.threads, .int .i64 s1.c.buckets, .int .i64 s1.c.inserts, .int .i64 s1.c.fuel, .int .i64 s1.c.calls, .slice ρ.cs.1 s1.thr.length ρ.cs.2, .slice ρ.is.1 s1.thr.length ρ.is.2, .slice ρ.ms.1 s1.thr.length ρ.ms.2, .slice ρ.os.1 s1.ops.length ρ.os.2, .slice ρ.ns.1 s1.nodes.length ρ.ns.2] rfl _ rfl T6 (by kernel_rfl) rfl rfl rfl ?_; intro w7 T7 O7)
          | (refine wpl_ld rfl 43 _ rfl (ρ.bcells s1) rfl _ A9 Tryz.underlying43 rfl (by kernel_rfl) rfl ?_))
        have hw1 : s1.words = s.words := HBS.out.2.1
        have hc1 : s1.c = s.c := HBS.out.1
        have hst1 : s1.steps = s.steps := HBS.out.2.2.2
        have hL1 : LayAt w2.heap.size (w.heap.size + 2) w5 { ρ with w := r.w } s1 w7 := hL.book (st_words hok).1 O6 hBρ hfρ hw1 (at_cells T7 (by simp [RV.cells, hw1, hc1, hst1])) O7
        have hnl1 : s1.nodes.length ≤ i := by rw [HBS.out.2.2.1]; exact hnl
        generalize { ρ with w := r.w } = r1 at hL1
        clear hL T0 S0 n0 n1 n2 n3 n4 hBρ hfρ A9 O6 T6 T7 O7 hw1 hc1 hst1
        have T1 : At w7 w2.heap.size 45 (r1.cells s1) := hL1.at_
        obtain ⟨n0, n1, n2, n3, n4⟩ := row_item HR5.out hL1.only hgo HIT.out
        have hgw7 : g < w7.heap.size := Nat.lt_of_lt_of_le hgl hL1.only.size
        generalize hs2 : s1.swap (s1.wordAt nn) 0 it.word = s2
        generalize hsw : s1.swaps (s1.wordAt nn) 0 = sw
        have HS2 := Lib.hid hs2
        have HSW := Lib.hid hsw
        clear hs2 hsw
        have hok2 : s2.ok := by rw [← HS2.out]; exact ok_swap hok1 _ _ HFT.out.2.2
        have hwl2 : 0 < s2.words.length := (st_words hok2).1
        refine wp_region_J (l := [_, _, _, _, _, _, _, _, _, _, _, _, _, _]) (CallG 7 2 45 zero17 (fun j v => match j with | 0 => v = .agg (r1.cells s1) | 1 => v = .int .i64 nn | 2 => v = .slice (some ⟨g, 0, none⟩) x.items.length vc | 3 => v = .int .i64 i | 4 => v = .pointer (some ⟨g, i * 5, none⟩) | 5 => v = .pointer (some ⟨g, i * 5 + 2, none⟩) | 6 => v = .int .u64 it.word | _ => False) (fun ρ => [.agg (ρ.cells s2), .bool sw]) (fun ρ => ρ.cells s2) (fun ρ w' => ReadAt w' ρ.w.1 (wordsV s2.words) ∧ ρ = { r1 with w := ρ.w } ∧ Fr w7.heap.size r1.w.1 ρ.w.1) w7) (by kernel_rfl) (by kernel_rfl) (fun us => CallG.start us) ⟨?_, ?_, ?_, ?_, ?_, ?_, ?_, ?_, ?_, ?_, ?_, ?_, ?_, ?_, trivial⟩ ?_
        · intro dn us w6 A hev hy hG hdn hdep K hK
          have e0 : A.eval (.tmp 3) = .pointer (some ⟨w2.heap.size, 0, none⟩) := by rw [hev]; rfl
          refine step_list (wpl_ld rfl 45 (.tmp 3) rfl (r1.cells s1) e0 _ (T1.only hG.only id) Tryz.underlying45 rfl (by kernel_rfl) rfl ⟨rfl, ?_⟩)
          exact hK _ _ (hG.first (by decide) rfl)
        · intro dn us w6 A hev hy hG hdn hdep K hK
          have e0 : A.eval (.tmp 7) = .int .i64 nn := by rw [hev]; rfl
          rw [if_pos (by rfl)]
          unfold Oper.wp execOp
          generalize A.eval = ev at e0 ⊢
          go_simp
          exact hK _ _ (hG.first (by decide) rfl)
        · intro dn us w6 A hev hy hG hdn hdep K hK
          have e0 : A.eval (.tmp 5) = .slice (some ⟨g, 0, none⟩) x.items.length vc := by rw [hev]; rfl
          rw [if_pos (by rfl)]
          unfold Oper.wp execOp
          generalize A.eval = ev at e0 ⊢
          go_simp
          exact hK _ _ (hG.first (by decide) rfl)
        · intro dn us w6 A hev hy hG hdn hdep K hK
          have e0 : A.eval (.tmp 8) = .int .i64 i := by rw [hev]; rfl
          rw [if_pos (by rfl)]
          unfold Oper.wp execOp
          generalize A.eval = ev at e0 ⊢
          go_simp
          exact hK _ _ (hG.first (by decide) rfl)
        · intro dn us w6 A hev hy hG hdn hdep K hK
          have d2 : dn 2 = true := allD_mem hdep (by decide)
          have d3 : dn 3 = true := allD_mem hdep (by decide)
          have e0 : A.eval (.tmp 66) = .slice (some ⟨g, 0, none⟩) x.items.length vc := by rw [hev]; exact hG.pre 2 (by decide) d2
          have e1 : A.eval (.tmp 67) = .int .i64 i := by rw [hev]; exact hG.pre 3 (by decide) d3
          rw [if_pos (by rfl)]
          unfold Oper.wp execOp
          generalize A.eval = ev at e0 e1 ⊢
          go_simp
          exact hK _ _ (hG.first (by decide) rfl)
        · intro dn us w6 A hev hy hG hdn hdep K hK
          have d4 : dn 4 = true := allD_mem hdep (by decide)
          have e0 : A.eval (.tmp 68) = .pointer (some ⟨g, i * 5, none⟩) := by rw [hev]; exact hG.pre 4 (by decide) d4
          rw [if_pos (by rfl)]
          unfold Oper.wp execOp
          generalize A.eval = ev at e0 ⊢
          go_simp
          exact hK _ _ (hG.first (by decide) rfl)
        · intro dn us w6 A hev hy hG hdn hdep K hK
          have d5 : dn 5 = true := allD_mem hdep (by decide)
          have e0 : A.eval (.tmp 69) = .pointer (some ⟨g, i * 5 + 2, none⟩) := by rw [hev]; exact hG.pre 5 (by decide) d5
          have cc0 : w6.cell? ⟨g, i * 5 + 2, none⟩ = some (.int .u64 it.word) := by rw [hG.only.cell hgw7 id]; exact n2
          rw [if_pos (by rfl)]
          unfold Oper.wp execOp
          generalize A.eval = ev at e0 ⊢
          go_simp
          exact hK _ _ (hG.first (by decide) rfl)
        · intro dn us w6 A hev hy hG hdn hdep K hK
          have d0 : dn 0 = true := allD_mem hdep (by decide)
          have d1 : dn 1 = true := allD_mem hdep (by decide)
          have d6 : dn 6 = true := allD_mem hdep (by decide)
          have e0 : A.eval (.tmp 64) = r1.val s1 := by rw [hev]; exact hG.pre 0 (by decide) d0
          have e1 : A.eval (.tmp 65) = .int .i64 nn := by rw [hev]; exact hG.pre 1 (by decide) d1
          have e2 : A.eval (.const (.int .u64 0)) = .int .u64 0 := by rw [hev]; rfl
          have e3 : A.eval (.tmp 70) = .int .u64 it.word := by rw [hev]; exact hG.pre 6 (by decide) d6
          have e4 : A.eval (.func 64) = .func (.func 64) #[] #[] := by rw [hev]; rfl
          have hR6 : RefIn w6 r1 s1 := ⟨hL1.ref.words.only hG.only fun _ _ _ _ => id, hL1.ref.book.only hG.only ⟨fun _ _ _ => id, fun _ _ _ => id, fun _ _ _ => id, fun _ _ _ => id, fun _ _ _ => id⟩⟩
          rw [if_pos (by rfl)]
          unfold Oper.wp execOp
          generalize A.eval = ev at e0 e1 e2 e3 e4 ⊢
          go_simp
          have hcon := rwturn_any nn 0 it.word w6 hR6 hok1
          rw [HS2.out, HSW.out] at hcon
          refine hcon.mono ?_
          rintro e wq ⟨p', rfl, hr, hb, hf⟩
          have hf7 := hf.mono hG.only.size
          exact hK _ _ (hG.called (ρ := { r1 with w := p' }) hdn hb ⟨hr, rfl, hf7⟩ fun g' _ _ hA w'' hO => ⟨hr.only hO fun b o e _ => words_off hwl2 hr hA zero17_no b o e, rfl, hf7⟩)
        · intro dn us w6 A hev hy hG hdn hdep K hK
          have d7 : dn 7 = true := allD_mem hdep (by decide)
          have e0 : A.eval (.tmp 71) = us 7 := by rw [hev]; rfl
          refine step_list (wpl_move rfl _ (.inl rfl) ⟨rfl, ?_⟩)
          rw [e0]
          exact hK _ _ (hG.moved d7)
        · intro dn us w6 A hev hy hG hdn hdep K hK
          have d8 : dn 8 = true := allD_mem hdep (by decide)
          obtain ⟨dk, uk1⟩ := hG.mv d8
          obtain ⟨ρ, uk, hRR⟩ := hG.call dk
          clear hRR
          have e0 : A.eval (.tmp 63) = .tuple #[.agg (ρ.cells s2), .bool sw] := by rw [hev]; exact uk1.trans uk
          rw [if_pos (by rfl)]
          unfold Oper.wp execOp
          generalize A.eval = ev at e0 ⊢
          go_simp
          refine hK _ _ (hG.took (i := 0) (by decide) dk fun ρ' hρ' => ?_)
          rw [uk] at hρ'
          injection hρ' with hρ'
          rw [← List.toArray_inj hρ']
          rfl
        · intro dn us w6 A hev hy hG hdn hdep K hK
          have d8 : dn 8 = true := allD_mem hdep (by decide)
          obtain ⟨dk, uk1⟩ := hG.mv d8
          obtain ⟨ρ, uk, hRR⟩ := hG.call dk
          clear hRR
          have e0 : A.eval (.tmp 63) = .tuple #[.agg (ρ.cells s2), .bool sw] := by rw [hev]; exact uk1.trans uk
          rw [if_pos (by rfl)]
          unfold Oper.wp execOp
          generalize A.eval = ev at e0 ⊢
          go_simp
          refine hK _ _ (hG.took (i := 1) (by decide) dk fun ρ' hρ' => ?_)
          rw [uk] at hρ'
          injection hρ' with hρ'
          rw [← List.toArray_inj hρ']
          rfl
        · intro dn us w6 A hev hy hG hdn hdep K hK
          rw [if_pos (by rfl)]
          unfold Oper.wp execOp
          go_simp
          exact hK _ _ (hG.boxed hdn fun ρ hρ => ⟨⟨hρ.1.below ((Below.refl _ _).alloc (Nat.le_refl _) _), hρ.2⟩, fun w' hO => ⟨(hρ.1.below ((Below.refl _ _).alloc (Nat.le_refl _) _)).only hO fun b o e _ => by intro e2; have e2' : b = w6.heap.size := e2; have := read_lt hρ.1 (by simpa [wordsV] using hwl2) e; omega, hρ.2⟩⟩)
        · intro dn us w6 A hev hy hG hdn hdep K hK
          have d9 : dn 9 = true := allD_mem hdep (by decide)
          have d11 : dn 11 = true := allD_mem hdep (by decide)
          obtain ⟨dk, ux⟩ := hG.ext 0 (by decide) d9
          obtain ⟨ρ, uk, hRR⟩ := hG.call dk
          clear hRR
          obtain ⟨gb, ub, _, _, ab, _⟩ := hG.box d11
          have vx : us 9 = .agg (ρ.cells s2) := by have := ux ρ uk; simpa using this
          have e0 : A.eval (.tmp 12) = .pointer (some ⟨gb, 0, none⟩) := by rw [hev]; exact ub
          have e1 : A.eval (.tmp 72) = .agg (ρ.cells s2) := by rw [hev]; exact vx
          refine step_list (wpl_st rfl 45 (.tmp 12) (.tmp 72) rfl (ρ.cells s2) e0 _ e1 (ab hdn) (by kernel_rfl) rfl rfl rfl fun w7 A7 O7 => ⟨rfl, ?_⟩)
          refine hK _ _ (hG.laid dk d11 ub O7 (fun ρ' hρ' => ?_) _)
          have hv := ux ρ' hρ'
          have hv' : Value.agg (ρ.cells s2) = .agg (ρ'.cells s2) := by rw [← vx]; simpa using hv
          injection hv' with hv'
          exact at_cells A7 hv'
        · intro dn us w6 A hev hy hG hdn hdep K hK
          have d10 : dn 10 = true := allD_mem hdep (by decide)
          obtain ⟨dk, u1⟩ := hG.ext 1 (by decide) d10
          have e0 : A.eval (.tmp 73) = us 10 := by rw [hev]; rfl
          refine step_list (wpl_move rfl _ (.inr rfl) ⟨rfl, ?_⟩)
          rw [e0]
          exact hK _ _ (hG.said (i := 1) (by decide) (by decide) dk u1)
        intro dn us w6 hG hall
        obtain ⟨ρ, u7, ⟨hWρ, hρe, hfρ⟩, _⟩ := hG.call (hall 7 (by decide))
        obtain ⟨gB, u11, gBa, gBb, _, aB⟩ := hG.box (hall 11 (by decide))
        have HRE := Lib.hid (And.intro hWρ (And.intro hρe hfρ))
        clear hρe hWρ hfρ
        have A12 : At w6 gB 45 (ρ.cells s2) := (aB (hall 12 (by decide))).2 ρ u7
        have O6 := hG.only
        have T6 : At w6 w2.heap.size 45 (r1.cells s1) := T1.only O6 id
        simp only [fillA, fillT, Nat.reduceAdd, List.setIfInBounds_toArray, List.set_cons_zero, List.set_cons_succ, u11]
        clear hG hall u7 u11 aB
        go_upto_region 14 with (first
          | (refine wpl_st rfl 45 _ _ rfl (ρ.cells s2) rfl _ rfl T6 (by kernel_rfl) rfl rfl rfl ?_; intro wZ TZ OZ; have TTT := True.intro)
          | (refine wpl_ld rfl 45 _ rfl (ρ.cells s2) rfl _ A12 Tryz.underlying45 rfl (by kernel_rfl) rfl ?_))
        obtain ⟨hWρ, hρe, hfρ⟩ := HRE.out
        have hLZ : LayAt w2.heap.size (w.heap.size + 2) w5 ρ s2 wZ := by
          have e : (RV.cells { r1 with w := ρ.w } s2) = ρ.cells s2 := by rw [← hρe]
          have := hL1.words (s1 := s2) (p := ρ.w) hwl2 O6 hWρ hfρ (by rw [← HS2.out]; rfl) (by rw [← HS2.out]; rfl) (by rw [← HS2.out]; rfl) (at_cells TZ e.symm) OZ
          rw [← hρe] at this
          exact this
        have hoZ : s2.ops.length ≤ i + 1 := by rw [← HS2.out]; exact hol1
        have hnZ : s2.nodes.length ≤ i := by rw [← HS2.out]; exact hnl1
        have HLO := Lib.hid (show s.layOp op it = (s2, nn) by unfold St.layOp; rw [if_neg (by rw [HAG.out]; decide), HBG.out]; dsimp only; rw [HS2.out])
        clear hL1 T1 n0 n1 n2 n3 n4 hgw7 hρe hWρ hfρ HRE A12 O6 T6 TZ OZ
        generalize hmk : s2.make 0 nn = mk
        obtain ⟨sM, nd, em⟩ := mk
        have HMK := Lib.hid hmk
        clear hmk
        have hms := make_same s2 0 nn
        have hokM := make_ok hok2 0 nn
        have hnM := nodes_make s2 0 nn
        rw [HMK.out] at hms hokM hnM
        have hokM : sM.ok := hokM
        have hnM : sM.nodes.length ≤ i + 1 := by have h' : sM.nodes.length ≤ s2.nodes.length + 1 := hnM; omega
        have hoM : sM.ops.length ≤ i + 1 := by have h' : sM.ops = s2.ops := hms.2.2.1; rw [h']; omega
        have hcM : sM.c = s2.c := hms.1
        have hwM : sM.words = s2.words := hms.2.1
        have hsM : sM.steps = s2.steps := hms.2.2.2
        have HMS := Lib.hid (And.intro hcM (And.intro hwM hsM))
        clear hms hcM hwM hsM
        have TZ : At wZ w2.heap.size 45 (ρ.cells s2) := hLZ.at_
        have hcon := rmake_any 0 nn wZ hLZ.ref.book hok2 (by omega) (by omega)
        rw [HMK.out] at hcon
        have HCON := Lib.hid hcon
        clear hcon
        go_upto_region 16 with (first
          | (refine wpl_st rfl 43 _ _ rfl #[.int .i64 s2.c.threads, .int .i64 s2.c.buckets, .int .i64 s2.c.inserts, .int .i64 s2.c.fuel, .int .i64 s2.c.calls, .slice ρ.w.1 s2.words.length ρ.w.2, .int .i64 s2.steps, .int .i64 sM.c.threads, .int .i64 sM.c.buckets, .int .i64 sM.c.inserts, .int .i64 sM.c.fuel, .int .i64 sM.c.calls, .slice ρM.cs.1 sM.thr.length ρM.cs.2, .slice ρM.is.1 sM.thr.length ρM.is.2, .slice ρM.ms.1 sM.thr.length ρM.ms.2, .slice ρM.os.1 sM.ops.length ρM.os.2, .slice ρM.ns.1 sM.nodes.length ρM.ns.2] rfl _ rfl Tb (by kernel_rfl) rfl rfl rfl ?_; intro wM TM OM; have TTT := True.intro)
          | (refine wpl_ld rfl 43 _ rfl (ρM.bcells sM) rfl _ Ab Tryz.underlying43 rfl (by kernel_rfl) rfl ?_)
          | (refine wpl_st rfl 43 _ _ rfl (ρM.bcells sM) rfl _ rfl (At.new wa _ _) (by kernel_rfl) rfl rfl rfl ?_; intro wb Ab Ob
             have Db : Below wa.heap.size wa wb := ((Below.refl _ wa).alloc (Nat.le_refl _) _).trans (Ob.below (by simp) fun j hj e => by have e' : j = wa.heap.size := e; omega)
             have Tb := Ta.below' Db)
          | (go_at_call 65; refine HCON.out.mono ?_; rintro e wa ⟨ρM, rfl, hBa, hba, hfa⟩; have Ta := TZ.below' hba)
          | (refine wpl_ld rfl 43 _ rfl (ρ.bcells s2) rfl _ TZ Tryz.underlying43 rfl (by kernel_rfl) rfl ?_))
        have hLM : LayAt w2.heap.size (w.heap.size + 2) w5 { ρM with w := ρ.w } sM wM := hLZ.book (st_words hok2).1 (below_only (hba.trans (Db.mono hba.size))) (hBa.below Db) hfa HMS.out.2.1 (at_cells TM (by simp [RV.cells, HMS.out.1, HMS.out.2.1, HMS.out.2.2])) OM
        clear hBa hba hfa Ta Db Tb Ab Ob TM OM TZ
        generalize { ρM with w := ρ.w } = rM at hLM
        have TM : At wM w2.heap.size 45 (rM.cells sM) := hLM.at_
        go_upto_region 17 with (first
          | (refine wpl_ld rfl 45 _ rfl (rM.cells sM) rfl _ TM Tryz.underlying45 rfl (by kernel_rfl) rfl ?_)
          | (go_at_call 66; refine (rwpeek_any at_ wM hLM.ref).mono ?_; rintro e wP ⟨rfl, hbP⟩))
        have hLP0 := hLM.below hbP
        have hLP : LayAt w2.heap.size (w.heap.size + 2) w5 rM sM wP.drew := hLP0.below ((Below.refl _ wP).drew)
        clear hLM TM hbP hLP0
        have TP : At wP.drew w2.heap.size 45 (rM.cells sM) := hLP.at_
        have hpk := peek_range hokM at_
        generalize hlast : sM.peek at_ = last at *
        generalize hs3 : sM.store (sM.nextAt at_) (refOf nd (last % 2 == 1)) = s3
        have HLAST := Lib.hid hlast
        have HS3 := Lib.hid hs3
        clear hlast hs3
        have hok3 : s3.ok := by rw [← HS3.out]; exact ok_store hokM _ (refOf_u64 _ _)
        have hwl3 : 0 < s3.words.length := (st_words hok3).1
        have h3t : s3.thr = sM.thr := by rw [← HS3.out]; rfl
        have h3o : s3.ops = sM.ops := by rw [← HS3.out]; rfl
        have h3n : s3.nodes = sM.nodes := by rw [← HS3.out]; rfl
        have H3 := Lib.hid (And.intro h3t (And.intro h3o h3n))
        clear h3t h3o h3n
        refine wp_region_J (l := [_, _, _, _, _, _, _, _]) (SetG 6 w2.heap.size (fun j v => match j with | 0 => v = .agg (rM.cells sM) | 1 => v = .int .i64 at_ | 2 => v = .int .i64 nd | 3 => v = .int .u64 last | 4 => v = .bool (last % 2 == 1) | 5 => v = .int .u64 (refOf nd (last % 2 == 1)) | _ => False) rM sM s3 wP.drew) (by kernel_rfl) (by kernel_rfl) (fun us => SetG.start us) ⟨?_, ?_, ?_, ?_, ?_, ?_, ?_, ?_, trivial⟩ ?_
        · intro dn us w6 A hev hy hG hdn hdep K hK
          have hwW : w6 = wP.drew := by
            refine hG.same ?_
            cases q : dn 6 with
            | false => rfl
            | true => have := hG.dk0 q; rw [hdn] at this; cases this
          subst hwW
          have e0 : A.eval (.tmp 3) = .pointer (some ⟨w2.heap.size, 0, none⟩) := by rw [hev]; rfl
          refine step_list (wpl_ld rfl 45 (.tmp 3) rfl (rM.cells sM) e0 _ TP Tryz.underlying45 rfl (by kernel_rfl) rfl ⟨rfl, ?_⟩)
          exact hK _ _ (hG.first (by decide) rfl)
        · intro dn us w6 A hev hy hG hdn hdep K hK
          have e0 : A.eval (.tmp 6) = .int .i64 at_ := by rw [hev]; rfl
          rw [if_pos (by rfl)]
          unfold Oper.wp execOp
          generalize A.eval = ev at e0 ⊢
          go_simp
          exact hK _ _ (hG.first (by decide) rfl)
        · intro dn us w6 A hev hy hG hdn hdep K hK
          have e0 : A.eval (.tmp 15) = .int .i64 nd := by rw [hev]; rfl
          rw [if_pos (by rfl)]
          unfold Oper.wp execOp
          generalize A.eval = ev at e0 ⊢
          go_simp
          exact hK _ _ (hG.first (by decide) rfl)
        · intro dn us w6 A hev hy hG hdn hdep K hK
          have e0 : A.eval (.tmp 17) = .int .u64 last := by rw [hev]; rfl
          rw [if_pos (by rfl)]
          unfold Oper.wp execOp
          generalize A.eval = ev at e0 ⊢
          go_simp
          exact hK _ _ (hG.first (by decide) rfl)
        · intro dn us w6 A hev hy hG hdn hdep K hK
          have d3 : dn 3 = true := allD_mem hdep (by decide)
          have e0 : A.eval (.tmp 91) = .int .u64 last := by rw [hev]; exact hG.pre 3 (by decide) d3
          have ef : A.eval (.func 61) = .func (.func 61) #[] #[] := by rw [hev]; rfl
          rw [if_pos (by rfl)]
          unfold Oper.wp execOp
          generalize A.eval = ev at e0 ef ⊢
          go_simp
          refine (rmarked_any last w6 hpk.1 hpk.2).mono ?_
          rintro e wq ⟨rfl, rfl⟩
          exact hK _ _ (hG.first (by decide) rfl)
        · intro dn us w6 A hev hy hG hdn hdep K hK
          have d2 : dn 2 = true := allD_mem hdep (by decide)
          have d4 : dn 4 = true := allD_mem hdep (by decide)
          have e0 : A.eval (.tmp 90) = .int .i64 nd := by rw [hev]; exact hG.pre 2 (by decide) d2
          have e1 : A.eval (.tmp 92) = .bool (last % 2 == 1) := by rw [hev]; exact hG.pre 4 (by decide) d4
          have ef : A.eval (.func 60) = .func (.func 60) #[] #[] := by rw [hev]; rfl
          rw [if_pos (by rfl)]
          unfold Oper.wp execOp
          generalize A.eval = ev at e0 e1 ef ⊢
          go_simp
          refine (rpack_any nd (last % 2 == 1) w6).mono ?_
          rintro e wq ⟨rfl, rfl⟩
          exact hK _ _ (hG.first (by decide) rfl)
        · intro dn us w6 A hev hy hG hdn hdep K hK
          have d0 : dn 0 = true := allD_mem hdep (by decide)
          have d1 : dn 1 = true := allD_mem hdep (by decide)
          have d5 : dn 5 = true := allD_mem hdep (by decide)
          have hwW : w6 = wP.drew := hG.same hdn
          subst hwW
          have e0 : A.eval (.tmp 88) = rM.val sM := by rw [hev]; exact hG.pre 0 (by decide) d0
          have e1 : A.eval (.tmp 89) = .int .i64 at_ := by rw [hev]; exact hG.pre 1 (by decide) d1
          have e2 : A.eval (.tmp 93) = .int .u64 (refOf nd (last % 2 == 1)) := by rw [hev]; exact hG.pre 5 (by decide) d5
          have ef : A.eval (.func 67) = .func (.func 67) #[] #[] := by rw [hev]; rfl
          rw [if_pos (by rfl)]
          unfold Oper.wp execOp
          generalize A.eval = ev at e0 e1 e2 ef ⊢
          go_simp
          have hcon := rwset_any at_ (refOf nd (last % 2 == 1)) _ hLP.ref hokM
          rw [HS3.out] at hcon
          refine hcon.mono ?_
          rintro e wq ⟨p', rfl, hr, hb, hf⟩
          exact hK _ _ (hG.called hdn d0 (by decide) hb hr hf)
        · intro dn us w6 A hev hy hG hdn hdep K hK
          have d6 : dn 6 = true := allD_mem hdep (by decide)
          obtain ⟨p', us1, hr1, hf1, hO1⟩ := hG.call d6 hdn
          have e0 : A.eval (.tmp 3) = .pointer (some ⟨w2.heap.size, 0, none⟩) := by rw [hev]; rfl
          have e1 : A.eval (.tmp 94) = .agg (RV.cells { rM with w := p' } s3) := by rw [hev]; exact us1
          refine step_list (wpl_st rfl 45 (.tmp 3) (.tmp 94) rfl (RV.cells { rM with w := p' } s3) e0 _ e1 (TP.only hO1 id) (by kernel_rfl) rfl rfl rfl fun w7 A7 O7 => ⟨rfl, ?_⟩)
          exact hK _ _ (hG.laid d6 hdn hr1 hf1 O7 A7 _)
        intro dn us wQ hG hall
        obtain ⟨pq, w1q, hrq, hfq, hOq, hOq2, hAq⟩ := hG.st (hall 7 (by decide))
        simp only [fillA, fillT, Nat.reduceAdd, List.setIfInBounds_toArray, List.set_cons_zero, List.set_cons_succ]
        clear hG hall

        have hLQ0 : LayAt w2.heap.size (w.heap.size + 2) w5 { rM with w := pq } s3 wQ := hLP.words hwl3 hOq hrq hfq H3.out.1 H3.out.2.1 H3.out.2.2 hAq hOq2
        clear hLP TP hOq hrq hfq hAq hOq2
        generalize { rM with w := pq } = rQ at hLQ0
        have hLQ : LayAt w2.heap.size (w.heap.size + 2) w5 rQ s3 wQ.drew := hLQ0.below ((Below.refl _ wQ).drew)
        clear hLQ0
        have TP : At wQ.drew w2.heap.size 45 (rQ.cells s3) := hLQ.at_
        obtain ⟨n0, n1, n2, n3, n4⟩ := row_item HR5.out hLQ.only hgo HIT.out
        clear n0 n1 n2 n4
        have hgwq : g < wQ.drew.heap.size := Nat.lt_of_lt_of_le hgl hLQ.only.size
        generalize hs4 : s3.store (s3.nextAt nd) (refOf 0 it.mark) = s4
        have HS4 := Lib.hid hs4
        clear hs4
        have hok4 : s4.ok := by rw [← HS4.out]; exact ok_store hok3 _ (refOf_u64 _ _)
        have hwl4 : 0 < s4.words.length := (st_words hok4).1
        have h4t : s4.thr = s3.thr := by rw [← HS4.out]; rfl
        have h4o : s4.ops = s3.ops := by rw [← HS4.out]; rfl
        have h4n : s4.nodes = s3.nodes := by rw [← HS4.out]; rfl
        have H4 := Lib.hid (And.intro h4t (And.intro h4o h4n))
        clear h4t h4o h4n
        go_upto_region 18 with fail
        refine wp_region_J (l := [_, _, _, _, _, _, _, _, _, _]) (SetG 8 w2.heap.size (fun j v => match j with | 0 => v = .agg (rQ.cells s3) | 1 => v = .int .i64 nd | 2 => v = .slice (some ⟨g, 0, none⟩) x.items.length vc | 3 => v = .int .i64 i | 4 => v = .pointer (some ⟨g, i * 5, none⟩) | 5 => v = .pointer (some ⟨g, i * 5 + 3, none⟩) | 6 => v = .bool it.mark | 7 => v = .int .u64 (refOf 0 it.mark) | _ => False) rQ s3 s4 wQ.drew) (by kernel_rfl) (by kernel_rfl) (fun us => SetG.start us) ⟨?_, ?_, ?_, ?_, ?_, ?_, ?_, ?_, ?_, ?_, trivial⟩ ?_
        · intro dn us w6 A hev hy hG hdn hdep K hK
          have hwW : w6 = wQ.drew := by
            refine hG.same ?_
            cases q : dn 8 with
            | false => rfl
            | true => have := hG.dk0 q; rw [hdn] at this; cases this
          subst hwW
          have e0 : A.eval (.tmp 3) = .pointer (some ⟨w2.heap.size, 0, none⟩) := by rw [hev]; rfl
          refine step_list (wpl_ld rfl 45 (.tmp 3) rfl (rQ.cells s3) e0 _ TP Tryz.underlying45 rfl (by kernel_rfl) rfl ⟨rfl, ?_⟩)
          exact hK _ _ (hG.first (by decide) rfl)
        · intro dn us w6 A hev hy hG hdn hdep K hK
          have e0 : A.eval (.tmp 15) = .int .i64 nd := by rw [hev]; rfl
          rw [if_pos (by rfl)]
          unfold Oper.wp execOp
          generalize A.eval = ev at e0 ⊢
          go_simp
          exact hK _ _ (hG.first (by decide) rfl)
        · intro dn us w6 A hev hy hG hdn hdep K hK
          have e0 : A.eval (.tmp 5) = .slice (some ⟨g, 0, none⟩) x.items.length vc := by rw [hev]; rfl
          rw [if_pos (by rfl)]
          unfold Oper.wp execOp
          generalize A.eval = ev at e0 ⊢
          go_simp
          exact hK _ _ (hG.first (by decide) rfl)
        · intro dn us w6 A hev hy hG hdn hdep K hK
          have e0 : A.eval (.tmp 8) = .int .i64 i := by rw [hev]; rfl
          rw [if_pos (by rfl)]
          unfold Oper.wp execOp
          generalize A.eval = ev at e0 ⊢
          go_simp
          exact hK _ _ (hG.first (by decide) rfl)
        · intro dn us w6 A hev hy hG hdn hdep K hK
          have d2 : dn 2 = true := allD_mem hdep (by decide)
          have d3 : dn 3 = true := allD_mem hdep (by decide)
          have e0 : A.eval (.tmp 97) = .slice (some ⟨g, 0, none⟩) x.items.length vc := by rw [hev]; exact hG.pre 2 (by decide) d2
          have e1 : A.eval (.tmp 98) = .int .i64 i := by rw [hev]; exact hG.pre 3 (by decide) d3
          rw [if_pos (by rfl)]
          unfold Oper.wp execOp
          generalize A.eval = ev at e0 e1 ⊢
          go_simp
          exact hK _ _ (hG.first (by decide) rfl)
        · intro dn us w6 A hev hy hG hdn hdep K hK
          have d4 : dn 4 = true := allD_mem hdep (by decide)
          have e0 : A.eval (.tmp 99) = .pointer (some ⟨g, i * 5, none⟩) := by rw [hev]; exact hG.pre 4 (by decide) d4
          rw [if_pos (by rfl)]
          unfold Oper.wp execOp
          generalize A.eval = ev at e0 ⊢
          go_simp
          exact hK _ _ (hG.first (by decide) rfl)
        · intro dn us w6 A hev hy hG hdn hdep K hK
          have d5 : dn 5 = true := allD_mem hdep (by decide)
          have e0 : A.eval (.tmp 100) = .pointer (some ⟨g, i * 5 + 3, none⟩) := by rw [hev]; exact hG.pre 5 (by decide) d5
          have cc0 : w6.cell? ⟨g, i * 5 + 3, none⟩ = some (.bool it.mark) := by rw [hG.only.cell hgwq hgo]; exact n3
          rw [if_pos (by rfl)]
          unfold Oper.wp execOp
          generalize A.eval = ev at e0 ⊢
          go_simp
          exact hK _ _ (hG.first (by decide) rfl)
        · intro dn us w6 A hev hy hG hdn hdep K hK
          have d6 : dn 6 = true := allD_mem hdep (by decide)
          have e0 : A.eval (.tmp 101) = .bool it.mark := by rw [hev]; exact hG.pre 6 (by decide) d6
          have e1 : A.eval (.const (.int .i64 0)) = .int .i64 0 := by rw [hev]; rfl
          have ef : A.eval (.func 60) = .func (.func 60) #[] #[] := by rw [hev]; rfl
          rw [if_pos (by rfl)]
          unfold Oper.wp execOp
          generalize A.eval = ev at e0 e1 ef ⊢
          go_simp
          refine (rpack_any 0 it.mark w6).mono ?_
          rintro e wq ⟨rfl, rfl⟩
          exact hK _ _ (hG.first (by decide) rfl)
        · intro dn us w6 A hev hy hG hdn hdep K hK
          have d0 : dn 0 = true := allD_mem hdep (by decide)
          have d1 : dn 1 = true := allD_mem hdep (by decide)
          have d7 : dn 7 = true := allD_mem hdep (by decide)
          have hwW : w6 = wQ.drew := hG.same hdn
          subst hwW
          have e0 : A.eval (.tmp 95) = rQ.val s3 := by rw [hev]; exact hG.pre 0 (by decide) d0
          have e1 : A.eval (.tmp 96) = .int .i64 nd := by rw [hev]; exact hG.pre 1 (by decide) d1
          have e2 : A.eval (.tmp 102) = .int .u64 (refOf 0 it.mark) := by rw [hev]; exact hG.pre 7 (by decide) d7
          have ef : A.eval (.func 67) = .func (.func 67) #[] #[] := by rw [hev]; rfl
          rw [if_pos (by rfl)]
          unfold Oper.wp execOp
          generalize A.eval = ev at e0 e1 e2 ef ⊢
          go_simp
          have hcon := rwset_any nd (refOf 0 it.mark) _ hLQ.ref hok3
          rw [HS4.out] at hcon
          refine hcon.mono ?_
          rintro e wq ⟨p', rfl, hr, hb, hf⟩
          exact hK _ _ (hG.called hdn d0 (by decide) hb hr hf)
        · intro dn us w6 A hev hy hG hdn hdep K hK
          have d8 : dn 8 = true := allD_mem hdep (by decide)
          obtain ⟨p', us1, hr1, hf1, hO1⟩ := hG.call d8 hdn
          have e0 : A.eval (.tmp 3) = .pointer (some ⟨w2.heap.size, 0, none⟩) := by rw [hev]; rfl
          have e1 : A.eval (.tmp 103) = .agg (RV.cells { rQ with w := p' } s4) := by rw [hev]; exact us1
          refine step_list (wpl_st rfl 45 (.tmp 3) (.tmp 103) rfl (RV.cells { rQ with w := p' } s4) e0 _ e1 (TP.only hO1 id) (by kernel_rfl) rfl rfl rfl fun w7 A7 O7 => ⟨rfl, ?_⟩)
          exact hK _ _ (hG.laid d8 hdn hr1 hf1 O7 A7 _)
        intro dn us wQ hG hall
        obtain ⟨pq, w1q, hrq, hfq, hOq, hOq2, hAq⟩ := hG.st (hall 9 (by decide))
        simp only [fillA, fillT, Nat.reduceAdd, List.setIfInBounds_toArray, List.set_cons_zero, List.set_cons_succ]
        clear hG hall

        have hLN : LayAt w2.heap.size (w.heap.size + 2) w5 { rQ with w := pq } s4 wQ := hLQ.words hwl4 hOq hrq hfq H4.out.1 H4.out.2.1 H4.out.2.2 hAq hOq2
        clear hLQ TP hOq hrq hfq hAq hOq2
        generalize { rQ with w := pq } = rN at hLN
        go_wp2_with fail
        go_roundg (x.items.length - (i + 1))
        case measure => omega
        case rel =>
          refine ⟨i + 1, rfl, by omega, s4, nd, nn, rN, (take_next HIT.out _).trans ((congrArg (fun p => layItem p it) HS.out).trans ?_), by first | rfl | trivial, by first | rfl | trivial, hLN, hok4, ?_, ?_⟩
          · have hnx : s3.nextAt nd = sM.nextAt nd := by rw [← HS3.out]; rfl
            unfold layItem St.layNode
            simp only [HLO.out, HMK.out, HLAST.out, HS3.out]
            rw [← hnx, HS4.out]
          · rw [H4.out.2.1, H3.out.2.1]; exact hoM
          · rw [H4.out.2.2, H3.out.2.2]; exact hnM
      | true =>
        rw [hag] at n4
        have HLO := Lib.hid (show s.layOp op it = (s, op) by unfold St.layOp; rw [if_pos hag])
        have hoZ : s.ops.length ≤ i + 1 := by omega
        clear hag
        go_upto_region 14 with fail
        clear n0 n1 n2 n3 n4 T0 S0
        generalize hmk : s.make 0 op = mk
        obtain ⟨sM, nd, em⟩ := mk
        have HMK := Lib.hid hmk
        clear hmk
        have hms := make_same s 0 op
        have hokM := make_ok hok 0 op
        have hnM := nodes_make s 0 op
        rw [HMK.out] at hms hokM hnM
        have hokM : sM.ok := hokM
        have hnM : sM.nodes.length ≤ i + 1 := by have h' : sM.nodes.length ≤ s.nodes.length + 1 := hnM; omega
        have hoM : sM.ops.length ≤ i + 1 := by have h' : sM.ops = s.ops := hms.2.2.1; rw [h']; omega
        have hcM : sM.c = s.c := hms.1
        have hwM : sM.words = s.words := hms.2.1
        have hsM : sM.steps = s.steps := hms.2.2.2
        have HMS := Lib.hid (And.intro hcM (And.intro hwM hsM))
        clear hms hcM hwM hsM
        have TZ : At wr w2.heap.size 45 (r.cells s) := hL.at_
        have hcon := rmake_any 0 op wr hL.ref.book hok (by omega) (by omega)
        rw [HMK.out] at hcon
        have HCON := Lib.hid hcon
        clear hcon
        go_upto_region 16 with (first
          | (refine wpl_st rfl 43 _ _ rfl #[.int .i64 s.c.threads, .int .i64 s.c.buckets, .int .i64 s.c.inserts, .int .i64 s.c.fuel, .int .i64 s.c.calls, .slice r.w.1 s.words.length r.w.2, .int .i64 s.steps, .int .i64 sM.c.threads, .int .i64 sM.c.buckets, .int .i64 sM.c.inserts, .int .i64 sM.c.fuel, .int .i64 sM.c.calls, .slice ρM.cs.1 sM.thr.length ρM.cs.2, .slice ρM.is.1 sM.thr.length ρM.is.2, .slice ρM.ms.1 sM.thr.length ρM.ms.2, .slice ρM.os.1 sM.ops.length ρM.os.2, .slice ρM.ns.1 sM.nodes.length ρM.ns.2] rfl _ rfl Tb (by kernel_rfl) rfl rfl rfl ?_; intro wM TM OM; have TTT := True.intro)
          | (refine wpl_ld rfl 43 _ rfl (ρM.bcells sM) rfl _ Ab Tryz.underlying43 rfl (by kernel_rfl) rfl ?_)
          | (refine wpl_st rfl 43 _ _ rfl (ρM.bcells sM) rfl _ rfl (At.new wa _ _) (by kernel_rfl) rfl rfl rfl ?_; intro wb Ab Ob
             have Db : Below wa.heap.size wa wb := ((Below.refl _ wa).alloc (Nat.le_refl _) _).trans (Ob.below (by simp) fun j hj e => by have e' : j = wa.heap.size := e; omega)
             have Tb := Ta.below' Db)
          | (go_at_call 65; refine HCON.out.mono ?_; rintro e wa ⟨ρM, rfl, hBa, hba, hfa⟩; have Ta := TZ.below' hba)
          | (refine wpl_ld rfl 43 _ rfl (r.bcells s) rfl _ TZ Tryz.underlying43 rfl (by kernel_rfl) rfl ?_))
        have hLM : LayAt w2.heap.size (w.heap.size + 2) w5 { ρM with w := r.w } sM wM := hL.book (st_words hok).1 (below_only (hba.trans (Db.mono hba.size))) (hBa.below Db) hfa HMS.out.2.1 (at_cells TM (by simp [RV.cells, HMS.out.1, HMS.out.2.1, HMS.out.2.2])) OM
        clear hBa hba hfa Ta Db Tb Ab Ob TM OM TZ
        generalize { ρM with w := r.w } = rM at hLM
        have TM : At wM w2.heap.size 45 (rM.cells sM) := hLM.at_
        go_upto_region 17 with (first
          | (refine wpl_ld rfl 45 _ rfl (rM.cells sM) rfl _ TM Tryz.underlying45 rfl (by kernel_rfl) rfl ?_)
          | (go_at_call 66; refine (rwpeek_any at_ wM hLM.ref).mono ?_; rintro e wP ⟨rfl, hbP⟩))
        have hLP0 := hLM.below hbP
        have hLP : LayAt w2.heap.size (w.heap.size + 2) w5 rM sM wP.drew := hLP0.below ((Below.refl _ wP).drew)
        clear hLM TM hbP hLP0
        have TP : At wP.drew w2.heap.size 45 (rM.cells sM) := hLP.at_
        have hpk := peek_range hokM at_
        generalize hlast : sM.peek at_ = last at *
        generalize hs3 : sM.store (sM.nextAt at_) (refOf nd (last % 2 == 1)) = s3
        have HLAST := Lib.hid hlast
        have HS3 := Lib.hid hs3
        clear hlast hs3
        have hok3 : s3.ok := by rw [← HS3.out]; exact ok_store hokM _ (refOf_u64 _ _)
        have hwl3 : 0 < s3.words.length := (st_words hok3).1
        have h3t : s3.thr = sM.thr := by rw [← HS3.out]; rfl
        have h3o : s3.ops = sM.ops := by rw [← HS3.out]; rfl
        have h3n : s3.nodes = sM.nodes := by rw [← HS3.out]; rfl
        have H3 := Lib.hid (And.intro h3t (And.intro h3o h3n))
        clear h3t h3o h3n
        refine wp_region_J (l := [_, _, _, _, _, _, _, _]) (SetG 6 w2.heap.size (fun j v => match j with | 0 => v = .agg (rM.cells sM) | 1 => v = .int .i64 at_ | 2 => v = .int .i64 nd | 3 => v = .int .u64 last | 4 => v = .bool (last % 2 == 1) | 5 => v = .int .u64 (refOf nd (last % 2 == 1)) | _ => False) rM sM s3 wP.drew) (by kernel_rfl) (by kernel_rfl) (fun us => SetG.start us) ⟨?_, ?_, ?_, ?_, ?_, ?_, ?_, ?_, trivial⟩ ?_
        · intro dn us w6 A hev hy hG hdn hdep K hK
          have hwW : w6 = wP.drew := by
            refine hG.same ?_
            cases q : dn 6 with
            | false => rfl
            | true => have := hG.dk0 q; rw [hdn] at this; cases this
          subst hwW
          have e0 : A.eval (.tmp 3) = .pointer (some ⟨w2.heap.size, 0, none⟩) := by rw [hev]; rfl
          refine step_list (wpl_ld rfl 45 (.tmp 3) rfl (rM.cells sM) e0 _ TP Tryz.underlying45 rfl (by kernel_rfl) rfl ⟨rfl, ?_⟩)
          exact hK _ _ (hG.first (by decide) rfl)
        · intro dn us w6 A hev hy hG hdn hdep K hK
          have e0 : A.eval (.tmp 6) = .int .i64 at_ := by rw [hev]; rfl
          rw [if_pos (by rfl)]
          unfold Oper.wp execOp
          generalize A.eval = ev at e0 ⊢
          go_simp
          exact hK _ _ (hG.first (by decide) rfl)
        · intro dn us w6 A hev hy hG hdn hdep K hK
          have e0 : A.eval (.tmp 15) = .int .i64 nd := by rw [hev]; rfl
          rw [if_pos (by rfl)]
          unfold Oper.wp execOp
          generalize A.eval = ev at e0 ⊢
          go_simp
          exact hK _ _ (hG.first (by decide) rfl)
        · intro dn us w6 A hev hy hG hdn hdep K hK
          have e0 : A.eval (.tmp 17) = .int .u64 last := by rw [hev]; rfl
          rw [if_pos (by rfl)]
          unfold Oper.wp execOp
          generalize A.eval = ev at e0 ⊢
          go_simp
          exact hK _ _ (hG.first (by decide) rfl)
        · intro dn us w6 A hev hy hG hdn hdep K hK
          have d3 : dn 3 = true := allD_mem hdep (by decide)
          have e0 : A.eval (.tmp 91) = .int .u64 last := by rw [hev]; exact hG.pre 3 (by decide) d3
          have ef : A.eval (.func 61) = .func (.func 61) #[] #[] := by rw [hev]; rfl
          rw [if_pos (by rfl)]
          unfold Oper.wp execOp
          generalize A.eval = ev at e0 ef ⊢
          go_simp
          refine (rmarked_any last w6 hpk.1 hpk.2).mono ?_
          rintro e wq ⟨rfl, rfl⟩
          exact hK _ _ (hG.first (by decide) rfl)
        · intro dn us w6 A hev hy hG hdn hdep K hK
          have d2 : dn 2 = true := allD_mem hdep (by decide)
          have d4 : dn 4 = true := allD_mem hdep (by decide)
          have e0 : A.eval (.tmp 90) = .int .i64 nd := by rw [hev]; exact hG.pre 2 (by decide) d2
          have e1 : A.eval (.tmp 92) = .bool (last % 2 == 1) := by rw [hev]; exact hG.pre 4 (by decide) d4
          have ef : A.eval (.func 60) = .func (.func 60) #[] #[] := by rw [hev]; rfl
          rw [if_pos (by rfl)]
          unfold Oper.wp execOp
          generalize A.eval = ev at e0 e1 ef ⊢
          go_simp
          refine (rpack_any nd (last % 2 == 1) w6).mono ?_
          rintro e wq ⟨rfl, rfl⟩
          exact hK _ _ (hG.first (by decide) rfl)
        · intro dn us w6 A hev hy hG hdn hdep K hK
          have d0 : dn 0 = true := allD_mem hdep (by decide)
          have d1 : dn 1 = true := allD_mem hdep (by decide)
          have d5 : dn 5 = true := allD_mem hdep (by decide)
          have hwW : w6 = wP.drew := hG.same hdn
          subst hwW
          have e0 : A.eval (.tmp 88) = rM.val sM := by rw [hev]; exact hG.pre 0 (by decide) d0
          have e1 : A.eval (.tmp 89) = .int .i64 at_ := by rw [hev]; exact hG.pre 1 (by decide) d1
          have e2 : A.eval (.tmp 93) = .int .u64 (refOf nd (last % 2 == 1)) := by rw [hev]; exact hG.pre 5 (by decide) d5
          have ef : A.eval (.func 67) = .func (.func 67) #[] #[] := by rw [hev]; rfl
          rw [if_pos (by rfl)]
          unfold Oper.wp execOp
          generalize A.eval = ev at e0 e1 e2 ef ⊢
          go_simp
          have hcon := rwset_any at_ (refOf nd (last % 2 == 1)) _ hLP.ref hokM
          rw [HS3.out] at hcon
          refine hcon.mono ?_
          rintro e wq ⟨p', rfl, hr, hb, hf⟩
          exact hK _ _ (hG.called hdn d0 (by decide) hb hr hf)
        · intro dn us w6 A hev hy hG hdn hdep K hK
          have d6 : dn 6 = true := allD_mem hdep (by decide)
          obtain ⟨p', us1, hr1, hf1, hO1⟩ := hG.call d6 hdn
          have e0 : A.eval (.tmp 3) = .pointer (some ⟨w2.heap.size, 0, none⟩) := by rw [hev]; rfl
          have e1 : A.eval (.tmp 94) = .agg (RV.cells { rM with w := p' } s3) := by rw [hev]; exact us1
          refine step_list (wpl_st rfl 45 (.tmp 3) (.tmp 94) rfl (RV.cells { rM with w := p' } s3) e0 _ e1 (TP.only hO1 id) (by kernel_rfl) rfl rfl rfl fun w7 A7 O7 => ⟨rfl, ?_⟩)
          exact hK _ _ (hG.laid d6 hdn hr1 hf1 O7 A7 _)
        intro dn us wQ hG hall
        obtain ⟨pq, w1q, hrq, hfq, hOq, hOq2, hAq⟩ := hG.st (hall 7 (by decide))
        simp only [fillA, fillT, Nat.reduceAdd, List.setIfInBounds_toArray, List.set_cons_zero, List.set_cons_succ]
        clear hG hall

        have hLQ0 : LayAt w2.heap.size (w.heap.size + 2) w5 { rM with w := pq } s3 wQ := hLP.words hwl3 hOq hrq hfq H3.out.1 H3.out.2.1 H3.out.2.2 hAq hOq2
        clear hLP TP hOq hrq hfq hAq hOq2
        generalize { rM with w := pq } = rQ at hLQ0
        have hLQ : LayAt w2.heap.size (w.heap.size + 2) w5 rQ s3 wQ.drew := hLQ0.below ((Below.refl _ wQ).drew)
        clear hLQ0
        have TP : At wQ.drew w2.heap.size 45 (rQ.cells s3) := hLQ.at_
        obtain ⟨n0, n1, n2, n3, n4⟩ := row_item HR5.out hLQ.only hgo HIT.out
        clear n0 n1 n2 n4
        have hgwq : g < wQ.drew.heap.size := Nat.lt_of_lt_of_le hgl hLQ.only.size
        generalize hs4 : s3.store (s3.nextAt nd) (refOf 0 it.mark) = s4
        have HS4 := Lib.hid hs4
        clear hs4
        have hok4 : s4.ok := by rw [← HS4.out]; exact ok_store hok3 _ (refOf_u64 _ _)
        have hwl4 : 0 < s4.words.length := (st_words hok4).1
        have h4t : s4.thr = s3.thr := by rw [← HS4.out]; rfl
        have h4o : s4.ops = s3.ops := by rw [← HS4.out]; rfl
        have h4n : s4.nodes = s3.nodes := by rw [← HS4.out]; rfl
        have H4 := Lib.hid (And.intro h4t (And.intro h4o h4n))
        clear h4t h4o h4n
        go_upto_region 18 with fail
        refine wp_region_J (l := [_, _, _, _, _, _, _, _, _, _]) (SetG 8 w2.heap.size (fun j v => match j with | 0 => v = .agg (rQ.cells s3) | 1 => v = .int .i64 nd | 2 => v = .slice (some ⟨g, 0, none⟩) x.items.length vc | 3 => v = .int .i64 i | 4 => v = .pointer (some ⟨g, i * 5, none⟩) | 5 => v = .pointer (some ⟨g, i * 5 + 3, none⟩) | 6 => v = .bool it.mark | 7 => v = .int .u64 (refOf 0 it.mark) | _ => False) rQ s3 s4 wQ.drew) (by kernel_rfl) (by kernel_rfl) (fun us => SetG.start us) ⟨?_, ?_, ?_, ?_, ?_, ?_, ?_, ?_, ?_, ?_, trivial⟩ ?_
        · intro dn us w6 A hev hy hG hdn hdep K hK
          have hwW : w6 = wQ.drew := by
            refine hG.same ?_
            cases q : dn 8 with
            | false => rfl
            | true => have := hG.dk0 q; rw [hdn] at this; cases this
          subst hwW
          have e0 : A.eval (.tmp 3) = .pointer (some ⟨w2.heap.size, 0, none⟩) := by rw [hev]; rfl
          refine step_list (wpl_ld rfl 45 (.tmp 3) rfl (rQ.cells s3) e0 _ TP Tryz.underlying45 rfl (by kernel_rfl) rfl ⟨rfl, ?_⟩)
          exact hK _ _ (hG.first (by decide) rfl)
        · intro dn us w6 A hev hy hG hdn hdep K hK
          have e0 : A.eval (.tmp 15) = .int .i64 nd := by rw [hev]; rfl
          rw [if_pos (by rfl)]
          unfold Oper.wp execOp
          generalize A.eval = ev at e0 ⊢
          go_simp
          exact hK _ _ (hG.first (by decide) rfl)
        · intro dn us w6 A hev hy hG hdn hdep K hK
          have e0 : A.eval (.tmp 5) = .slice (some ⟨g, 0, none⟩) x.items.length vc := by rw [hev]; rfl
          rw [if_pos (by rfl)]
          unfold Oper.wp execOp
          generalize A.eval = ev at e0 ⊢
          go_simp
          exact hK _ _ (hG.first (by decide) rfl)
        · intro dn us w6 A hev hy hG hdn hdep K hK
          have e0 : A.eval (.tmp 8) = .int .i64 i := by rw [hev]; rfl
          rw [if_pos (by rfl)]
          unfold Oper.wp execOp
          generalize A.eval = ev at e0 ⊢
          go_simp
          exact hK _ _ (hG.first (by decide) rfl)
        · intro dn us w6 A hev hy hG hdn hdep K hK
          have d2 : dn 2 = true := allD_mem hdep (by decide)
          have d3 : dn 3 = true := allD_mem hdep (by decide)
          have e0 : A.eval (.tmp 97) = .slice (some ⟨g, 0, none⟩) x.items.length vc := by rw [hev]; exact hG.pre 2 (by decide) d2
          have e1 : A.eval (.tmp 98) = .int .i64 i := by rw [hev]; exact hG.pre 3 (by decide) d3
          rw [if_pos (by rfl)]
          unfold Oper.wp execOp
          generalize A.eval = ev at e0 e1 ⊢
          go_simp
          exact hK _ _ (hG.first (by decide) rfl)
        · intro dn us w6 A hev hy hG hdn hdep K hK
          have d4 : dn 4 = true := allD_mem hdep (by decide)
          have e0 : A.eval (.tmp 99) = .pointer (some ⟨g, i * 5, none⟩) := by rw [hev]; exact hG.pre 4 (by decide) d4
          rw [if_pos (by rfl)]
          unfold Oper.wp execOp
          generalize A.eval = ev at e0 ⊢
          go_simp
          exact hK _ _ (hG.first (by decide) rfl)
        · intro dn us w6 A hev hy hG hdn hdep K hK
          have d5 : dn 5 = true := allD_mem hdep (by decide)
          have e0 : A.eval (.tmp 100) = .pointer (some ⟨g, i * 5 + 3, none⟩) := by rw [hev]; exact hG.pre 5 (by decide) d5
          have cc0 : w6.cell? ⟨g, i * 5 + 3, none⟩ = some (.bool it.mark) := by rw [hG.only.cell hgwq hgo]; exact n3
          rw [if_pos (by rfl)]
          unfold Oper.wp execOp
          generalize A.eval = ev at e0 ⊢
          go_simp
          exact hK _ _ (hG.first (by decide) rfl)
        · intro dn us w6 A hev hy hG hdn hdep K hK
          have d6 : dn 6 = true := allD_mem hdep (by decide)
          have e0 : A.eval (.tmp 101) = .bool it.mark := by rw [hev]; exact hG.pre 6 (by decide) d6
          have e1 : A.eval (.const (.int .i64 0)) = .int .i64 0 := by rw [hev]; rfl
          have ef : A.eval (.func 60) = .func (.func 60) #[] #[] := by rw [hev]; rfl
          rw [if_pos (by rfl)]
          unfold Oper.wp execOp
          generalize A.eval = ev at e0 e1 ef ⊢
          go_simp
          refine (rpack_any 0 it.mark w6).mono ?_
          rintro e wq ⟨rfl, rfl⟩
          exact hK _ _ (hG.first (by decide) rfl)
        · intro dn us w6 A hev hy hG hdn hdep K hK
          have d0 : dn 0 = true := allD_mem hdep (by decide)
          have d1 : dn 1 = true := allD_mem hdep (by decide)
          have d7 : dn 7 = true := allD_mem hdep (by decide)
          have hwW : w6 = wQ.drew := hG.same hdn
          subst hwW
          have e0 : A.eval (.tmp 95) = rQ.val s3 := by rw [hev]; exact hG.pre 0 (by decide) d0
          have e1 : A.eval (.tmp 96) = .int .i64 nd := by rw [hev]; exact hG.pre 1 (by decide) d1
          have e2 : A.eval (.tmp 102) = .int .u64 (refOf 0 it.mark) := by rw [hev]; exact hG.pre 7 (by decide) d7
          have ef : A.eval (.func 67) = .func (.func 67) #[] #[] := by rw [hev]; rfl
          rw [if_pos (by rfl)]
          unfold Oper.wp execOp
          generalize A.eval = ev at e0 e1 e2 ef ⊢
          go_simp
          have hcon := rwset_any nd (refOf 0 it.mark) _ hLQ.ref hok3
          rw [HS4.out] at hcon
          refine hcon.mono ?_
          rintro e wq ⟨p', rfl, hr, hb, hf⟩
          exact hK _ _ (hG.called hdn d0 (by decide) hb hr hf)
        · intro dn us w6 A hev hy hG hdn hdep K hK
          have d8 : dn 8 = true := allD_mem hdep (by decide)
          obtain ⟨p', us1, hr1, hf1, hO1⟩ := hG.call d8 hdn
          have e0 : A.eval (.tmp 3) = .pointer (some ⟨w2.heap.size, 0, none⟩) := by rw [hev]; rfl
          have e1 : A.eval (.tmp 103) = .agg (RV.cells { rQ with w := p' } s4) := by rw [hev]; exact us1
          refine step_list (wpl_st rfl 45 (.tmp 3) (.tmp 103) rfl (RV.cells { rQ with w := p' } s4) e0 _ e1 (TP.only hO1 id) (by kernel_rfl) rfl rfl rfl fun w7 A7 O7 => ⟨rfl, ?_⟩)
          exact hK _ _ (hG.laid d8 hdn hr1 hf1 O7 A7 _)
        intro dn us wQ hG hall
        obtain ⟨pq, w1q, hrq, hfq, hOq, hOq2, hAq⟩ := hG.st (hall 9 (by decide))
        simp only [fillA, fillT, Nat.reduceAdd, List.setIfInBounds_toArray, List.set_cons_zero, List.set_cons_succ]
        clear hG hall

        have hLN : LayAt w2.heap.size (w.heap.size + 2) w5 { rQ with w := pq } s4 wQ := hLQ.words hwl4 hOq hrq hfq H4.out.1 H4.out.2.1 H4.out.2.2 hAq hOq2
        clear hLQ TP hOq hrq hfq hAq hOq2
        generalize { rQ with w := pq } = rN at hLN
        go_wp2_with fail
        go_roundg (x.items.length - (i + 1))
        case measure => omega
        case rel =>
          refine ⟨i + 1, rfl, by omega, s4, nd, op, rN, (take_next HIT.out _).trans ((congrArg (fun p => layItem p it) HS.out).trans ?_), by first | rfl | trivial, by first | rfl | trivial, hLN, hok4, ?_, ?_⟩
          · have hnx : s3.nextAt nd = sM.nextAt nd := by rw [← HS3.out]; rfl
            unfold layItem St.layNode
            simp only [HLO.out, HMK.out, HLAST.out, HS3.out]
            rw [← hnx, HS4.out]
          · rw [H4.out.2.1, H3.out.2.1]; exact hoM
          · rw [H4.out.2.2, H3.out.2.2]; exact hnM
    · have e : i = x.items.length := by omega
      rw [e, ← sorted_len, List.take_length] at hs
      have HS := Lib.hid (show (St.new x.conf).layItems x.sorted = (s, at_, op) from hs)
      clear hs e
      have HL := Lib.hid (show x.lay = s.layCalls x.calls by unfold Scene.lay; rw [HS.out])
      have HLs := Lib.hid hL
      have HOK := Lib.hid hok
      have c2 : wr.cell? ⟨w.heap.size, 2, none⟩ = some (.slice ca x.calls.length cc) := by rw [S0.cell]; rfl
      clear hok hL T0 S0 c2
      go_wp2_with fail
      go_loopg [18] x.calls.length (fun gg v18 wc => ∃ j : Nat, v18 = .int .i64 j ∧ j + gg = x.calls.length ∧ ∃ r, LayAt w2.heap.size (w.heap.size + 2) w5 r (s.layCalls (x.calls.take j)) wc ∧ (s.layCalls (x.calls.take j)).ok ∧ (s.layCalls (x.calls.take j)).ops.length ≤ 12 + j)
      case atStart => exact ⟨0, rfl, by omega, r, HLs.out, HOK.out, by show s.ops.length ≤ 12 + 0; omega⟩
      case round =>
        clear r HLs HOK hol hnl hi hlt
        obtain ⟨j, rfl, hj, r, hL, hok, hol⟩ := hrel
        have S0 : At wr w.heap.size 25 #[.int .u8 x.fuel, .slice ia x.items.length ic, .slice ca x.calls.length cc] := S5.only hL.only (by show ¬ w.heap.size = w2.heap.size; omega)
        have c2 : wr.cell? ⟨w.heap.size, 2, none⟩ = some (.slice ca x.calls.length cc) := by rw [S0.cell]; rfl
        by_cases hlt : j < x.calls.length
        · obtain ⟨it, hit⟩ : ∃ it, x.calls[j]? = some it := ⟨_, List.getElem?_eq_getElem hlt⟩
          have HIT := Lib.hid hit
          have HFT := Lib.hid (HX.out.calls it (List.mem_of_getElem? hit))
          have HBr : Below w.heap.size w wr := D5.trans (hL.only.below (by omega) fun i hi hn => by have e' : i = w2.heap.size := hn; omega)
          obtain ⟨b, o, rfl, lb, n0, n1, n2, n3⟩ := call_read (HC.out.below HBr) hit
          clear hit HBr
          have HSJ := Lib.hid (calls_next HIT.out s)
          generalize s.layCalls (x.calls.take j) = sj at *
          have T0 : At wr w2.heap.size 45 (r.cells sj) := hL.at_
          generalize hbg : sj.begin 2 it = bg at *
          obtain ⟨s1, nn, bb⟩ := bg
          have HBG := Lib.hid hbg
          clear hbg
          have hbs := begin_same sj 2 it
          rw [HBG.out] at hbs
          have hok1 : s1.ok := by have := begin_ok hok 2 (c := it) HFT.out; rw [HBG.out] at this; exact this
          have hol1 : s1.ops.length ≤ 12 + (j + 1) := by have := ops_begin sj 2 it; rw [HBG.out] at this; have h' : s1.ops.length ≤ sj.ops.length + 1 := this; omega
          have HTh := Lib.hid (show 0 < sj.thr.length by have := hok.thr; have := may_bounds hok.may; omega)
          have HTh1 := Lib.hid (show 0 < s1.thr.length by have := hok1.thr; have := may_bounds hok1.may; omega)
          have HBS := Lib.hid hbs
          clear hbs
          go_wp2_with fail
          refine wp_region_J (l := [_, _, _, _, _, _, _, _, _, _, _, _, _, _, _, _]) (CallG 7 3 43 zero10 (fun jj v => match jj with | 0 => v = .pointer (some ⟨w2.heap.size, 7, none⟩) | 1 => v = .agg (r.bcells sj) | 2 => v = .pointer (some ⟨w.heap.size, 2, none⟩) | 3 => v = .slice (some ⟨b, o, none⟩) x.calls.length cc | 4 => v = .int .i64 j | 5 => v = .pointer (some ⟨b, o + j * 4, none⟩) | 6 => v = it.v | _ => False) (fun ρ => [.agg (ρ.bcells s1), .int .i64 nn, .int .i64 bb]) (fun ρ => ρ.bcells s1) (fun ρ w' => BookIn w' ρ s1 ∧ BookFr wr.heap.size r ρ) wr) (by kernel_rfl) (by kernel_rfl) (fun us => CallG.start us) ⟨?_, ?_, ?_, ?_, ?_, ?_, ?_, ?_, ?_, ?_, ?_, ?_, ?_, ?_, ?_, ?_, trivial⟩ ?_
          · intro dn us w6 A hev hy hG hdn hdep K hK
            have e0 : A.eval (.tmp 3) = .pointer (some ⟨w2.heap.size, 0, none⟩) := by rw [hev]; rfl
            rw [if_pos (by rfl)]
            unfold Oper.wp execOp
            generalize A.eval = ev at e0 ⊢
            go_simp
            exact hK _ _ (hG.first (by decide) rfl)
          · intro dn us w6 A hev hy hG hdn hdep K hK
            have d0 : dn 0 = true := allD_mem hdep (by decide)
            have e0 : A.eval (.tmp 113) = .pointer (some ⟨w2.heap.size, 7, none⟩) := by rw [hev]; exact hG.pre 0 (by decide) d0
            refine step_list (wpl_ld rfl 43 (.tmp 113) rfl (r.bcells sj) e0 _ (T0.only hG.only id) Tryz.underlying43 rfl (by kernel_rfl) rfl ⟨rfl, ?_⟩)
            exact hK _ _ (hG.first (by decide) rfl)
          · intro dn us w6 A hev hy hG hdn hdep K hK
            have e0 : A.eval (.tmp 1) = .pointer (some ⟨w.heap.size, 0, none⟩) := by rw [hev]; rfl
            rw [if_pos (by rfl)]
            unfold Oper.wp execOp
            generalize A.eval = ev at e0 ⊢
            go_simp
            exact hK _ _ (hG.first (by decide) rfl)
          · intro dn us w6 A hev hy hG hdn hdep K hK
            have d2 : dn 2 = true := allD_mem hdep (by decide)
            have e0 : A.eval (.tmp 115) = .pointer (some ⟨w.heap.size, 2, none⟩) := by rw [hev]; exact hG.pre 2 (by decide) d2
            have cc0 : w6.cell? ⟨w.heap.size, 2, none⟩ = some (.slice (some ⟨b, o, none⟩) x.calls.length cc) := by rw [hG.only.cell S0.lt id]; exact c2
            rw [if_pos (by rfl)]
            unfold Oper.wp execOp
            generalize A.eval = ev at e0 ⊢
            go_simp
            exact hK _ _ (hG.first (by decide) rfl)
          · intro dn us w6 A hev hy hG hdn hdep K hK
            have e0 : A.eval (.tmp 18) = .int .i64 j := by rw [hev]; rfl
            rw [if_pos (by rfl)]
            unfold Oper.wp execOp
            generalize A.eval = ev at e0 ⊢
            go_simp
            exact hK _ _ (hG.first (by decide) rfl)
          · intro dn us w6 A hev hy hG hdn hdep K hK
            have d3 : dn 3 = true := allD_mem hdep (by decide)
            have d4 : dn 4 = true := allD_mem hdep (by decide)
            have e0 : A.eval (.tmp 116) = .slice (some ⟨b, o, none⟩) x.calls.length cc := by rw [hev]; exact hG.pre 3 (by decide) d3
            have e1 : A.eval (.tmp 117) = .int .i64 j := by rw [hev]; exact hG.pre 4 (by decide) d4
            rw [if_pos (by rfl)]
            unfold Oper.wp execOp
            generalize A.eval = ev at e0 e1 ⊢
            go_simp
            exact hK _ _ (hG.first (by decide) rfl)
          · intro dn us w6 A hev hy hG hdn hdep K hK
            have d5 : dn 5 = true := allD_mem hdep (by decide)
            have e0 : A.eval (.tmp 118) = .pointer (some ⟨b, o + j * 4, none⟩) := by rw [hev]; exact hG.pre 5 (by decide) d5
            have cc0 : w6.cell? ⟨b, o + j * 4, none⟩ = some (.int .i64 it.kind) := by rw [hG.only.cell lb id]; exact n0
            have cc1 : w6.cell? ⟨b, o + j * 4 + 1, none⟩ = some (.int .u64 it.key) := by rw [hG.only.cell lb id]; exact n1
            have cc2 : w6.cell? ⟨b, o + j * 4 + 2, none⟩ = some (.int .u64 it.val) := by rw [hG.only.cell lb id]; exact n2
            have cc3 : w6.cell? ⟨b, o + j * 4 + 3, none⟩ = some (.int .i64 it.limit) := by rw [hG.only.cell lb id]; exact n3
            rw [if_pos (by rfl)]
            unfold Oper.wp execOp
            generalize A.eval = ev at e0 ⊢
            go_simp
            exact hK _ _ (hG.first (by decide) rfl)
          · intro dn us w6 A hev hy hG hdn hdep K hK
            have d1 : dn 1 = true := allD_mem hdep (by decide)
            have d6 : dn 6 = true := allD_mem hdep (by decide)
            have e0 : A.eval (.tmp 114) = r.book sj := by rw [hev]; exact hG.pre 1 (by decide) d1
            have e1 : A.eval (.tmp 119) = it.v := by rw [hev]; exact hG.pre 6 (by decide) d6
            have e2 : A.eval (.const (.int .i64 2)) = .int .i64 2 := by rw [hev]; rfl
            have e3 : A.eval (.func 63) = .func (.func 63) #[] #[] := by rw [hev]; rfl
            have hB6 : BookIn w6 r sj := hL.ref.book.only hG.only ⟨fun _ _ _ => id, fun _ _ _ => id, fun _ _ _ => id, fun _ _ _ => id, fun _ _ _ => id⟩
            rw [if_pos (by rfl)]
            unfold Oper.wp execOp
            generalize A.eval = ev at e0 e1 e2 e3 ⊢
            go_simp
            have hcon := rbegin_any 2 it w6 hB6 hok (by omega)
            rw [HBG.out] at hcon
            refine hcon.mono ?_
            rintro e w7 ⟨ρ, rfl, hBρ, hb, hf⟩
            exact hK _ _ (hG.called hdn hb ⟨hBρ, hf.mono hG.only.size⟩ fun g' hg1 hg2 _ w'' hO => ⟨hBρ.only hO ((rows_lt hL.ref.book HTh.out).imp (fun b e k => by have e' : b = g' := e; omega) |>.fresh hf fun b e => by have e' : b = g' := e; omega), hf.mono hG.only.size⟩)
          · intro dn us w6 A hev hy hG hdn hdep K hK
            have d7 : dn 7 = true := allD_mem hdep (by decide)
            have e0 : A.eval (.tmp 120) = us 7 := by rw [hev]; rfl
            refine step_list (wpl_move rfl _ (.inl rfl) ⟨rfl, ?_⟩)
            rw [e0]
            exact hK _ _ (hG.moved d7)
          · intro dn us w6 A hev hy hG hdn hdep K hK
            have d8 : dn 8 = true := allD_mem hdep (by decide)
            obtain ⟨dk, uk1⟩ := hG.mv d8
            obtain ⟨ρ, uk, hRR⟩ := hG.call dk
            clear hRR
            have e0 : A.eval (.tmp 112) = .tuple #[.agg (ρ.bcells s1), .int .i64 nn, .int .i64 bb] := by rw [hev]; exact uk1.trans uk
            rw [if_pos (by rfl)]
            unfold Oper.wp execOp
            generalize A.eval = ev at e0 ⊢
            go_simp
            refine hK _ _ (hG.took (i := 0) (by decide) dk fun ρ' hρ' => ?_)
            rw [uk] at hρ'
            injection hρ' with hρ'
            rw [← List.toArray_inj hρ']
            rfl
          · intro dn us w6 A hev hy hG hdn hdep K hK
            have d8 : dn 8 = true := allD_mem hdep (by decide)
            obtain ⟨dk, uk1⟩ := hG.mv d8
            obtain ⟨ρ, uk, hRR⟩ := hG.call dk
            clear hRR
            have e0 : A.eval (.tmp 112) = .tuple #[.agg (ρ.bcells s1), .int .i64 nn, .int .i64 bb] := by rw [hev]; exact uk1.trans uk
            rw [if_pos (by rfl)]
            unfold Oper.wp execOp
            generalize A.eval = ev at e0 ⊢
            go_simp
            refine hK _ _ (hG.took (i := 1) (by decide) dk fun ρ' hρ' => ?_)
            rw [uk] at hρ'
            injection hρ' with hρ'
            rw [← List.toArray_inj hρ']
            rfl
          · intro dn us w6 A hev hy hG hdn hdep K hK
            have d8 : dn 8 = true := allD_mem hdep (by decide)
            obtain ⟨dk, uk1⟩ := hG.mv d8
            obtain ⟨ρ, uk, hRR⟩ := hG.call dk
            clear hRR
            have e0 : A.eval (.tmp 112) = .tuple #[.agg (ρ.bcells s1), .int .i64 nn, .int .i64 bb] := by rw [hev]; exact uk1.trans uk
            rw [if_pos (by rfl)]
            unfold Oper.wp execOp
            generalize A.eval = ev at e0 ⊢
            go_simp
            refine hK _ _ (hG.took (i := 2) (by decide) dk fun ρ' hρ' => ?_)
            rw [uk] at hρ'
            injection hρ' with hρ'
            rw [← List.toArray_inj hρ']
            rfl
          · intro dn us w6 A hev hy hG hdn hdep K hK
            rw [if_pos (by rfl)]
            unfold Oper.wp execOp
            go_simp
            exact hK _ _ (hG.boxed hdn fun ρ hρ => ⟨⟨hρ.1.below ((Below.refl _ _).alloc (Nat.le_refl _) _), hρ.2⟩, fun w' hO => ⟨(hρ.1.below ((Below.refl _ _).alloc (Nat.le_refl _) _)).only hO ((rows_lt hρ.1 HTh1.out).imp fun b e k => by have e' : b = w6.heap.size := e; omega), hρ.2⟩⟩)
          · intro dn us w6 A hev hy hG hdn hdep K hK
            have d9 : dn 9 = true := allD_mem hdep (by decide)
            have d12 : dn 12 = true := allD_mem hdep (by decide)
            obtain ⟨dk, ux⟩ := hG.ext 0 (by decide) d9
            obtain ⟨ρ, uk, hRR⟩ := hG.call dk
            clear hRR
            obtain ⟨gb, ub, _, _, ab, _⟩ := hG.box d12
            have vx : us 9 = .agg (ρ.bcells s1) := by have := ux ρ uk; simpa using this
            have e0 : A.eval (.tmp 19) = .pointer (some ⟨gb, 0, none⟩) := by rw [hev]; exact ub
            have e1 : A.eval (.tmp 121) = .agg (ρ.bcells s1) := by rw [hev]; exact vx
            refine step_list (wpl_st rfl 43 (.tmp 19) (.tmp 121) rfl (ρ.bcells s1) e0 _ e1 (ab hdn) (by kernel_rfl) rfl rfl rfl fun w7 A7 O7 => ⟨rfl, ?_⟩)
            refine hK _ _ (hG.laid dk d12 ub O7 (fun ρ' hρ' => ?_) _)
            have hv := ux ρ' hρ'
            have hv' : Value.agg (ρ.bcells s1) = .agg (ρ'.bcells s1) := by rw [← vx]; simpa using hv
            injection hv' with hv'
            exact at_cells A7 hv'
          · intro dn us w6 A hev hy hG hdn hdep K hK
            have d10 : dn 10 = true := allD_mem hdep (by decide)
            obtain ⟨dk, u1⟩ := hG.ext 1 (by decide) d10
            have e0 : A.eval (.tmp 122) = us 10 := by rw [hev]; rfl
            refine step_list (wpl_move rfl _ (.inr rfl) ⟨rfl, ?_⟩)
            rw [e0]
            exact hK _ _ (hG.said (i := 1) (by decide) (by decide) dk u1)
          · intro dn us w6 A hev hy hG hdn hdep K hK
            have d11 : dn 11 = true := allD_mem hdep (by decide)
            obtain ⟨dk, u1⟩ := hG.ext 2 (by decide) d11
            have e0 : A.eval (.tmp 123) = us 11 := by rw [hev]; rfl
            refine step_list (wpl_move rfl _ (.inr rfl) ⟨rfl, ?_⟩)
            rw [e0]
            exact hK _ _ (hG.said (i := 2) (by decide) (by decide) dk u1)

          intro dn us w6 hG hall
          obtain ⟨ρ, u7, ⟨hBρ, hfρ⟩, _⟩ := hG.call (hall 7 (by decide))
          obtain ⟨g9, u12, g9a, g9b, _, a9⟩ := hG.box (hall 12 (by decide))
          have A9 : At w6 g9 43 (ρ.bcells s1) := (a9 (hall 13 (by decide))).2 ρ u7
          have O6 := hG.only
          have T6 : At w6 w2.heap.size 45 (r.cells sj) := T0.only O6 id
          simp only [fillA, fillT, Nat.reduceAdd, List.setIfInBounds_toArray, List.set_cons_zero, List.set_cons_succ, u12]
          clear hG hall u7 u12 a9 n0 n1 n2 n3
          go_wp2_with (first
            | (refine wpl_st rfl 43 _ _ rfl #[.int .i64 sj.c.threads, .int .i64 sj.c.buckets, .int .i64 sj.c.inserts, .int .i64 sj.c.fuel, .int .i64 sj.c.calls, .slice r.w.1 sj.words.length r.w.2, .int .i64 sj.steps, .int .i64 s1.c.threads, .int .i64 s1.c.buckets, .int .i64 s1.c.inserts, .int .i64 s1.c.fuel, .int .i64 s1.c.calls, .slice ρ.cs.1 s1.thr.length ρ.cs.2, .slice ρ.is.1 s1.thr.length ρ.is.2, .slice ρ.ms.1 s1.thr.length ρ.ms.2, .slice ρ.os.1 s1.ops.length ρ.os.2, .slice ρ.ns.1 s1.nodes.length ρ.ns.2] rfl _ rfl T6 (by kernel_rfl) rfl rfl rfl ?_; intro w7 T7 O7; have TTT := True.intro)
            | (refine wpl_ld rfl 43 _ rfl (ρ.bcells s1) rfl _ A9 Tryz.underlying43 rfl (by kernel_rfl) rfl ?_))
          have hw1 : s1.words = sj.words := HBS.out.2.1
          have hc1 : s1.c = sj.c := HBS.out.1
          have hst1 : s1.steps = sj.steps := HBS.out.2.2.2
          have hL1 : LayAt w2.heap.size (w.heap.size + 2) w5 { ρ with w := r.w } s1 w7 := hL.book (st_words hok).1 O6 hBρ hfρ hw1 (at_cells T7 (by simp [RV.cells, hw1, hc1, hst1])) O7
          clear hBρ hfρ A9 O6 T6 T7 O7 hw1 hc1 hst1 hL T0
          go_roundg (x.calls.length - (j + 1))
          case measure => omega
          case rel =>
            refine ⟨j + 1, rfl, by omega, { ρ with w := r.w }, ?_⟩
            rw [HSJ.out]
            exact ⟨hL1, hok1, hol1⟩
        · have e : j = x.calls.length := by omega
          rw [e, List.take_length] at hL hok
          have S52' : At wr (w.heap.size + 1) 45 zero17 := S52.only hL.only (by show ¬ w.heap.size + 1 = w2.heap.size; omega)
          rw [← HL.out] at hL hok
          clear e hol HL HS
          have TF := hL.at_
          have HLF := Lib.hid hL
          have HOF := Lib.hid hok
          clear hL hok
          go_wp2_with (first
            | (refine wpl_st rfl 45 _ _ rfl (r.cells x.lay) rfl _ rfl S52' (by kernel_rfl) rfl rfl rfl ?_; intro wF AF OF; have TTT := True.intro)
            | (refine wpl_ld rfl 45 _ rfl (r.cells x.lay) rfl _ TF Tryz.underlying45 rfl (by kernel_rfl) rfl ?_))
          have hRF : RefIn wF r x.lay := ⟨HLF.out.ref.words.only OF fun b o e _ => words_off (st_words HOF.out).1 HLF.out.ref.words S52' zero17_no b o e, HLF.out.ref.book.only OF (HLF.out.off2.imp fun b e => by have e' : b = w.heap.size + 1 := e; omega)⟩
          have hBF : Below w.heap.size w wF := (D5.trans (HLF.out.only.below (by omega) fun i hi hn => by have e' : i = w2.heap.size := hn; omega)).trans (OF.below (by have := TF.lt; omega) fun i hi hn => by have e' : i = w.heap.size + 1 := hn; omega)
          exact bodyPost_ret (v := RV.val r x.lay) (res_cell (fn := Tryz.f16) Tryz.results16 _ _ (w.heap.size + 1) _ _ rfl AF Tryz.underlying45 rfl (by kernel_rfl)) rfl ⟨r, rfl, hRF, hBF, HLF.out.off2.imp fun b e => by have e' : b < w.heap.size := e; omega, fun b o e k => HLF.out.offw b o e (by omega)⟩
end Go.Proofs.YtccmjljlfgbicaaGreat

