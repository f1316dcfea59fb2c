/- ScanRises, the walk. Printed by risw.py out of RisW.in. -/
import Derived.Test.YtccmjljlfgbicaaZL1
import Derived.Test.YtccmjljlfgbicaaZA1
import Derived.Test.YtccmjljlfgbicaaZO1
import Derived.WalkKit
import Derived.ProofKit
import Derived.OpenShut
namespace Go.Proofs.Ytccmjljlfgbicaa
open Go.ChangeShapes Go.WideShapes Go.ChangeAt Go.RowKit

abbrev GCall.cs (c : GCall) : Array Value := #[.int .i64 c.kind, .int .u64 c.key, .int .u64 c.val, .int .i64 c.limit]
abbrev NotK (k : Blks) (g b : Nat) : Nat → Prop := fun z => ¬ Own k z ∧ z ≠ g ∧ z ≠ b
/-- What is known at the head of each round. -/
structure RsAt (c : GCall) (v : Vw) (j : Nat) (k : Blks) (g b : Nat) (i : Nat) (w : World) (s : St) (y : Scn) (a1 : Option Addr) (n1 c1 : Nat) (a2 : Option Addr) (n2 c2 : Nat) (wr : World) : Prop where
  holds : Holds k s wr
  at_ : At wr g 40 (y.cells (.slice a1 n1 c1) (.slice a2 n2 c2))
  call : At wr b 28 c.cs
  in_ : ScnIn wr (NotK k g b) y (.slice a1 n1 c1) (.slice a2 n2 c2)
  below : Below w.heap.size w wr
  ow : OnlyW v s
  scn : ScnR v j c y
  good : ScnGood y i
  own : ∀ z, Own k z → w.heap.size ≤ z
  gk : ¬ Own k g ∧ ¬ Own k b ∧ w.heap.size ≤ b ∧ b < g
theorem iter_R {v : Vw} {j : Nat} {c : GCall} (hl : LaidV v j) {s : St} {y : Scn} (h : OnlyW v s) (hy : ScnR v j c y) : ∀ n, OnlyW v (scnIter n (s, y)).1 ∧ ScnR v j c (scnIter n (s, y)).2
  | 0 => ⟨h, hy⟩
  | n + 1 => by
    obtain ⟨a, b⟩ := iter_R hl h hy n
    rw [scnIter]
    exact ⟨a.step _, scnR_step hl a.b a.nx a.ky b⟩
theorem field_result (y : Scn) (lv pv : Value) (w : World) : (Instr.field 40 (.agg (y.cells lv pv)) 7).run Try.prog w = .ok (.agg #[.int .i64 y.err, .bool y.rdone, .int .u64 0, pv]) w := by kernel_rfl
theorem field_pairs (a b c pv : Value) (w : World) : (Instr.field 38 (.agg #[a, b, c, pv]) 3).run Try.prog w = .ok pv w := by kernel_rfl
theorem rmod (n : Int) (h : 0 ≤ n) : n.tmod 16 = n % 16 := Int.tmod_eq_emod_of_nonneg h

theorem NotK.fresh {k : Blks} {s : St} {g b : Nat} {w : World} (h : Holds k s w) (hg : g < w.heap.size) (hb : b < w.heap.size) : ∀ z, w.heap.size ≤ z → NotK k g b z := fun z hz => ⟨h.fresh hz, by omega, by omega⟩
theorem RsAt.turned {c : GCall} {v : Vw} {j : Nat} {k : Blks} {g b i : Nat} {w wr w' : World} {s s' : St} {y : Scn} {a1 a2 : Option Addr} {n1 c1 n2 c2 : Nat} (h : RsAt c v j k g b i w s y a1 n1 c1 a2 n2 c2 wr) (hH : Holds k s' w') (hO : Only (Own k) wr w') (ho : OnlyW v s') : RsAt c v j k g b i w s' y a1 n1 c1 a2 n2 c2 w' :=
  ⟨hH, h.at_.only hO h.gk.1, h.call.only hO h.gk.2.1, h.in_.only hO (fun z hz => hz.1), h.below.trans (hO.below h.below.size fun z hz e => by have := h.own z e; omega), ho, h.scn, h.good, h.own, h.gk⟩
theorem RsAt.stepped {c : GCall} {v : Vw} {j : Nat} {k : Blks} {g b i : Nat} {w wr w3 w4 : World} {s : St} {y : Scn} {a1 a2 b1 b2 : Option Addr} {n1 c1 n2 c2 m1 d1 m2 d2 : Nat} (hl : LaidV v j) (h : RsAt c v j k g b i w s y a1 n1 c1 a2 n2 c2 wr) (hH : Holds k (s.scnStep y).1 w3) (hO : Only (Own k) wr w3)
    (hI : ScnIn w3 (NotK k g b) (s.scnStep y).2 (.slice b1 m1 d1) (.slice b2 m2 d2)) (hg : Out k g) (hA : At w4 g 40 ((s.scnStep y).2.cells (.slice b1 m1 d1) (.slice b2 m2 d2))) (hO4 : Only (fun z => z = g) w3 w4) : RsAt c v j k g b (i + 1) w (s.scnStep y).1 (s.scnStep y).2 b1 m1 d1 b2 m2 d2 w4 := by
  have hB := h.below.trans (hO.below h.below.size fun z hz e => by have := h.own z e; omega)
  have hgb : b ≠ g := by have := h.gk.2.2.2; omega
  exact ⟨hH.but hg hO4, hA, (h.call.only hO h.gk.2.1).only hO4 hgb, hI.only hO4 (fun z hz e => hz.2.1 e), hB.trans (hO4.below hB.size fun z hz e => by have e' : z = g := e; have := h.gk.2.2; omega), h.ow.step y, scnR_step hl h.ow.b h.ow.nx h.ow.ky h.scn, good_step h.holds.ok h.ow.b h.good, h.own, h.gk⟩

set_option maxRecDepth 100000 in
set_option maxHeartbeats 4000000 in
theorem rises_walk {x : Scene} {v : Value} {ia ca ao : Option Addr} {ic cc ac : Nat} {l : List GAct} (c0 : GCall) (w : World) (hx : x.fits) (hS : SceneAt w v x ia ca ic cc) (hcf : c0.fits) (hlim : c0.limit ≤ 9223372036854775807) (hL : ReadAt w ao (actsV l)) (hf : ∀ a ∈ l, a.fits) :
    Calls Try.prog 3 #[v, c0.v, .slice ao l.length ac] w fun e w' => e = .returned (.bool true) ∧ Below w.heap.size w w' := by
  have HS := Lib.hid hS
  obtain ⟨rfl, _, _⟩ := hS
  have HX := Lib.hid hx
  have HLL := Lib.hid hL
  have HFF := Lib.hid hf
  obtain ⟨c, hc⟩ : ∃ c : GCall, c = { c0 with kind := 4 } := ⟨_, rfl⟩
  have HCF := Lib.hid (show c.fits by rw [hc]; exact hcf)
  have HLM := Lib.hid (show c.limit ≤ 9223372036854775807 by rw [hc]; exact hlim)
  have HCS := Lib.hid (show (#[.int .i64 4, .int .u64 c0.key, .int .u64 c0.val, .int .i64 c0.limit] : Array Value) = c.cs by rw [hc])
  clear hx hL hf hcf hlim
  have E2 := (At.new w 25 #[.int .u8 x.fuel, .slice ia x.items.length ic, .slice ca x.calls.length cc]).alloc (.cells c0.cs 28)
  have E3 := At.new1 w (.cells #[.int .u8 x.fuel, .slice ia x.items.length ic, .slice ca x.calls.length cc] 25) 28 c0.cs
  have D0 := below_twice w (.cells #[.int .u8 x.fuel, .slice ia x.items.length ic, .slice ca x.calls.length cc] 25) (.cells c0.cs 28)
  have hless : x.few = false ∨ ¬ l.length ≤ 40 ∨ (x.few = true ∧ l.length ≤ 40) := by
    cases x.few with
    | false => exact .inl rfl
    | true =>
      by_cases h : l.length ≤ 40
      · exact .inr (.inr ⟨rfl, h⟩)
      · exact .inr (.inl h)
  rcases hless with hfew | h40 | ⟨hfew, h40⟩
  · have HF := Lib.hid hfew
    clear hfew
    go_enter Try.func3, Try.ntmps3
    go_upto_region 1 with fail
    generalize (w.alloc (.cells #[.int .u8 x.fuel, .slice ia x.items.length ic, .slice ca x.calls.length cc] 25)).alloc (.cells #[.int .i64 c0.kind, .int .u64 c0.key, .int .u64 c0.val, .int .i64 c0.limit] 28) = w0 at *
    go_wp2_with (first
      | (go_at_call 9; refine (few_any _).mono ?_; rintro e w3 ⟨rfl, hb3⟩; rw [HF.out])
      | (refine wpl_ld rfl 25 _ rfl #[.int .u8 x.fuel, .slice ia x.items.length ic, .slice ca x.calls.length cc] rfl _ ((E2.below' hb1).only O2 (by show ¬ _ = _; omega)) Try.underlying25 rfl (by kernel_rfl) rfl ?_)
      | (refine wpl_st rfl 3 _ _ rfl #[.int .i64 4, .int .u64 c0.key, .int .u64 c0.val, .int .i64 c0.limit] rfl _ rfl (E3.below' hb1) (by kernel_rfl) rfl rfl rfl ?_; intro w2 A2 O2)
      | (go_at_call 8; refine (awake18_any _).mono ?_; rintro e w1 ⟨rfl, hb1⟩))
    go_ret
    have D1 := D0.trans (hb1.mono D0.size)
    have D2 : Below w.heap.size w w2 := D1.trans (O2.below D1.size fun i hi e => by have e' : i = w.heap.size + 1 := e; omega)
    exact ⟨rfl, D2.trans (hb3.mono D2.size)⟩
  · by_cases hfew : x.few = true
    case neg =>
      have HF := Lib.hid (show x.few = false by simpa using hfew)
      clear hfew
      go_enter Try.func3, Try.ntmps3
      go_upto_region 1 with fail
      generalize (w.alloc (.cells #[.int .u8 x.fuel, .slice ia x.items.length ic, .slice ca x.calls.length cc] 25)).alloc (.cells #[.int .i64 c0.kind, .int .u64 c0.key, .int .u64 c0.val, .int .i64 c0.limit] 28) = w0 at *
      go_wp2_with (first
        | (go_at_call 9; refine (few_any _).mono ?_; rintro e w3 ⟨rfl, hb3⟩; rw [HF.out])
        | (refine wpl_ld rfl 25 _ rfl #[.int .u8 x.fuel, .slice ia x.items.length ic, .slice ca x.calls.length cc] rfl _ ((E2.below' hb1).only O2 (by show ¬ _ = _; omega)) Try.underlying25 rfl (by kernel_rfl) rfl ?_)
        | (refine wpl_st rfl 3 _ _ rfl #[.int .i64 4, .int .u64 c0.key, .int .u64 c0.val, .int .i64 c0.limit] rfl _ rfl (E3.below' hb1) (by kernel_rfl) rfl rfl rfl ?_; intro w2 A2 O2)
        | (go_at_call 8; refine (awake18_any _).mono ?_; rintro e w1 ⟨rfl, hb1⟩))
      go_ret
      have D1 := D0.trans (hb1.mono D0.size)
      have D2 : Below w.heap.size w w2 := D1.trans (O2.below D1.size fun i hi e => by have e' : i = w.heap.size + 1 := e; omega)
      exact ⟨rfl, D2.trans (hb3.mono D2.size)⟩
    case pos =>
      have HF := Lib.hid hfew
      clear hfew
      go_enter Try.func3, Try.ntmps3
      go_upto_region 1 with fail
      generalize (w.alloc (.cells #[.int .u8 x.fuel, .slice ia x.items.length ic, .slice ca x.calls.length cc] 25)).alloc (.cells #[.int .i64 c0.kind, .int .u64 c0.key, .int .u64 c0.val, .int .i64 c0.limit] 28) = w0 at *
      go_wp2_with (first
        | (go_at_call 9; refine (few_any _).mono ?_; rintro e w3 ⟨rfl, hb3⟩; rw [HF.out])
        | (refine wpl_ld rfl 25 _ rfl #[.int .u8 x.fuel, .slice ia x.items.length ic, .slice ca x.calls.length cc] rfl _ ((E2.below' hb1).only O2 (by show ¬ _ = _; omega)) Try.underlying25 rfl (by kernel_rfl) rfl ?_)
        | (refine wpl_st rfl 3 _ _ rfl #[.int .i64 4, .int .u64 c0.key, .int .u64 c0.val, .int .i64 c0.limit] rfl _ rfl (E3.below' hb1) (by kernel_rfl) rfl rfl rfl ?_; intro w2 A2 O2)
        | (go_at_call 8; refine (awake18_any _).mono ?_; rintro e w1 ⟨rfl, hb1⟩))
      go_ret
      have D1 := D0.trans (hb1.mono D0.size)
      have D2 : Below w.heap.size w w2 := D1.trans (O2.below D1.size fun i hi e => by have e' : i = w.heap.size + 1 := e; omega)
      exact ⟨rfl, D2.trans (hb3.mono D2.size)⟩
  · have HF := Lib.hid hfew
    have hlen : x.items.length ≤ 12 ∧ x.calls.length ≤ 6 := by
      unfold Scene.few at hfew
      simpa using hfew
    clear hfew
    have HL := Lib.hid hlen
    have hlp := lay_path HX.out hlen.1
    have HBK := Lib.hid (show x.lay.c.buckets = 1 by rw [hlp.2.1]; rfl)
    have hLV : LaidV (x.lay.scnNew 1 c).1.vw x.items.length := laidV_scnNew (lay_laidV HX.out hlen.1).1 1 c
    have hR0 := scnR_new (x.lay.scnNew 1 c).1.vw x.items.length x.lay 1 c HBK.out
    have hG0 := good_new x.lay 1 c HBK.out
    have hB0 : (x.lay.scnNew 1 c).1.c.buckets = 1 := by rw [scnNew_c]; exact HBK.out
    clear hlp hlen
    go_enter Try.func3, Try.ntmps3
    go_upto_region 1 with fail
    generalize (w.alloc (.cells #[.int .u8 x.fuel, .slice ia x.items.length ic, .slice ca x.calls.length cc] 25)).alloc (.cells #[.int .i64 c0.kind, .int .u64 c0.key, .int .u64 c0.val, .int .i64 c0.limit] 28) = w0 at *
    generalize hq0 : x.lay.scnNew 1 c = q0 at *
    have HQ0 := Lib.hid hq0
    have HLV := Lib.hid hLV
    have HR0 := Lib.hid hR0
    have HG0 := Lib.hid hG0
    have HB0 := Lib.hid hB0
    clear hq0 hLV hR0 hG0 hB0 hc
    go_upto_region 9 with (first
      | (refine wpl_st rfl 40 _ _ rfl (q0.2.cells (.slice a1 n1 c1) (.slice a2 n2 c2)) rfl _ rfl (At.new w5 _ _) (by kernel_rfl) rfl rfl rfl ?_; intro w6 A6 O6)
      | (go_at_call 11; refine (snew_any (N := fun z => ¬ Own k z ∧ z ≠ w.heap.size + 1) 1 c w4 hH4 HCF.out (fun z hz => ⟨hH4.fresh hz, by omega⟩) HBK.out).mono ?_; rintro e w5 hS5
         rw [HQ0.out] at hS5
         obtain ⟨lv5, pv5, rfl, H5, I5, O5⟩ := hS5.out
         obtain ⟨a1, n1, c1, rfl⟩ := I5.lists.formN
         obtain ⟨a2, c2, rfl⟩ := I5.pairs.form
         generalize hn2 : q0.2.pairs.length = n2 at *)
      | (have zB := (B3.below' hb4).lt
         refine wpl_ld rfl 28 _ rfl c.cs rfl _ (B3.below' hb4) Try.underlying28 rfl (by kernel_rfl) rfl ?_)
      | (go_at_call 10; refine (lay18_any w3 HX.out HL.out.1 HL.out.2 ⟨rfl, HS.out.items.below D3, HS.out.calls.below D3⟩).mono ?_; rintro e w4 ⟨k, rfl, hH4, hK4, hb4⟩)
      | (refine wpl_ld rfl 25 _ rfl #[.int .u8 x.fuel, .slice ia x.items.length ic, .slice ca x.calls.length cc] rfl _ (((E2.below' hb1).only O2 (by show ¬ _ = _; omega)).below' hb3) Try.underlying25 rfl (by kernel_rfl) rfl ?_)
      | (go_at_call 9; refine (few_any _).mono ?_; rintro e w3 ⟨rfl, hb3⟩; rw [HF.out]
         have D1 := D0.trans (hb1.mono D0.size)
         have D2 : Below w.heap.size w w2 := D1.trans (O2.below D1.size fun i hi e => by have e' : i = w.heap.size + 1 := e; omega)
         have D3 := D2.trans (hb3.mono D2.size)
         have B3 := A2.below' hb3
         rw [HCS.out] at B3)
      | (refine wpl_ld rfl 25 _ rfl #[.int .u8 x.fuel, .slice ia x.items.length ic, .slice ca x.calls.length cc] rfl _ ((E2.below' hb1).only O2 (by show ¬ _ = _; omega)) Try.underlying25 rfl (by kernel_rfl) rfl ?_)
      | (refine wpl_st rfl 3 _ _ rfl #[.int .i64 4, .int .u64 c0.key, .int .u64 c0.val, .int .i64 c0.limit] rfl _ rfl (E3.below' hb1) (by kernel_rfl) rfl rfl rfl ?_; intro w2 A2 O2)
      | (go_at_call 8; refine (awake18_any _).mono ?_; rintro e w1 ⟨rfl, hb1⟩))
    have D56 : Below w5.heap.size w5 w6 := ((Below.refl _ w5).alloc (Nat.le_refl _) _).trans (O6.below (by simp) fun j hj e => by have e' : j = w5.heap.size := e; omega)
    have z3 := D3.size
    have z4 := hb4.size
    have z5 := O5.size
    have z6 := A6.lt
    have D4 := D3.trans (hb4.mono D3.size)
    have hown : ∀ z, Own k z → w.heap.size + 1 + 1 ≤ z := fun z e => by have := hK4 z (.inr (.inr e)); have := B3.lt; omega
    have D5 : Below w.heap.size w w5 := D4.trans (O5.below D4.size fun z hz e => by have := hown z e; omega)
    have NB : ¬ Own k (w.heap.size + 1) := fun e => by have := hown _ e; omega
    have NG : ¬ Own k w5.heap.size := H5.fresh (Nat.le_refl _)
    have BB := ((B3.below' hb4).only O5 NB).below' D56
    have I6 : ScnIn w6 (NotK k w5.heap.size (w.heap.size + 1)) q0.2 (.slice a1 n1 c1) (.slice a2 n2 c2) := I5.go (fun z hz hl => ⟨hz.1, by omega, hz.2⟩) (fun z _ hl => D56.block z hl)
    have hst0 : RsAt c q0.1.vw x.items.length k w5.heap.size (w.heap.size + 1) 0 w q0.1 q0.2 a1 n1 c1 a2 n2 c2 w6 :=
      ⟨H5.below D56, A6, BB, I6, D5.trans (D56.mono D5.size), ⟨HB0.out, fun _ => rfl, fun _ => rfl⟩, HR0.out, HG0.out, fun z e => by have := hown z e; omega, NG, NB, by omega, by omega⟩
    have OG := Lib.hid (H5.out (Nat.le_refl w5.heap.size))
    clear hb1 A2 O2 hb3 D0 D1 D2 D3 B3 hb4 zB hH4 hK4 H5 I5 O5 A6 O6 D56 z3 z4 z5 z6 D4 hown D5 NB NG BB I6 hn2 E2 E3 HF HS HX
    generalize w5.heap.size = g at *
    generalize hvw : q0.1.vw = vw at *
    go_wp2_with fail
    go_loopg [10] l.length (fun gg v10 wr => ∃ i : Nat, v10 = .int .i64 i ∧ i + gg = l.length ∧ ∃ s y b1 m1 d1 b2 m2 d2, RsAt c vw x.items.length k g (w.heap.size + 1) i w s y b1 m1 d1 b2 m2 d2 wr)
    case atStart => exact ⟨0, rfl, by omega, _, _, _, _, _, _, _, _, hst0⟩
    case round =>
      obtain ⟨i, rfl, hi, s, y, b1, m1, d1, b2, m2, d2, hR⟩ := hrel
      have HR := Lib.hid hR
      clear hst0
      by_cases hlt : i < l.length
      · obtain ⟨ac1, hac⟩ : ∃ a, l[i]? = some a := ⟨_, List.getElem?_eq_getElem hlt⟩
        obtain ⟨b, o, rfl, lb, r0, r1, r2, r3, r4⟩ := act_read (HLL.out.below hR.below) hac
        have HFT := Lib.hid (HFF.out ac1 (List.mem_of_getElem? hac))
        have HLB := Lib.hid (show b < w.heap.size from by
          obtain ⟨b', o', e1, e2, _⟩ := act_read (ao := some ⟨b, o, none⟩) HLL.out hac
          injection e1 with e1
          injection e1 with e1 e1'
          rw [e1]; exact e2)
        have hR2 := HR.out
        clear hac hR
        have hz := hR2.below.size
        have hbo : ¬ Own k b := fun e => by have := hR2.own b e; have := HLB.out; omega
        by_cases hn : 0 ≤ ac1.n
        · have hr16 := rmod ac1.n hn
          have hnb : decide (0 ≤ ac1.n) = true := decide_eq_true hn
          have hH := hR2.holds
          go_wp2_with fail
          have HHR := Lib.hid hH
          refine wp_region_C (l := [_, _, _, _, _, _, _, _, _, _, _, _, _, _, _, _, _, _]) (LG 17 (FL (fun j v => match j with | 0 => v = .pointer (some ⟨k.bw, 0, none⟩) | 1 => v = .slice (some ⟨b, o, none⟩) l.length ac | 2 => v = .int .i64 i | 3 => v = .pointer (some ⟨b, o + i * 5, none⟩) | 4 => v = .pointer (some ⟨b, o + i * 5 + 1, none⟩) | 5 => v = .int .i64 ac1.n | 6 => v = .int .i64 (ac1.n % 16) | 7 => v = .slice (some ⟨b, o, none⟩) l.length ac | 8 => v = .int .i64 i | 9 => v = .pointer (some ⟨b, o + i * 5, none⟩) | 10 => v = .pointer (some ⟨b, o + i * 5 + 3, none⟩) | 11 => v = .int .u64 ac1.old | 12 => v = .slice (some ⟨b, o, none⟩) l.length ac | 13 => v = .int .i64 i | 14 => v = .pointer (some ⟨b, o + i * 5, none⟩) | 15 => v = .pointer (some ⟨b, o + i * 5 + 4, none⟩) | 16 => v = .int .u64 ac1.w | _ => True) 98 99 (fun _ _ => True) (fun _ _ => True)) wr (fun _ w' => Holds k (s.swap (s.wordAt (ac1.n % 16)) ac1.old ac1.w) w' ∧ Only (Own k) wr w')) (by kernel_rfl) (by kernel_rfl) (fun us => LG.start us) ⟨?_, ?_, ?_, ?_, ?_, ?_, ?_, ?_, ?_, ?_, ?_, ?_, ?_, ?_, ?_, ?_, ?_, ?_, trivial⟩ ?_
          · intro dn us w6 A hev hy hG hcl hdn hdep K hK
            have e0 : A.eval (.tmp 8) = .pointer (some ⟨k.bw, 0, none⟩) := by rw [hev]; rfl
            rw [if_pos (by rfl)]
            unfold Oper.wp execOp
            generalize A.eval = ev at e0 ⊢
            go_simp
            exact hK _ _ (hG.plain hdn (by decide) (by decide) (by decide) (by first | rfl | (simp; done) | (simp; omega) | (simp; assumption)))
          · intro dn us w6 A hev hy hG hcl hdn hdep K hK
            have e0 : A.eval (.tmp 2) = .slice (some ⟨b, o, none⟩) l.length ac := by rw [hev]; rfl
            rw [if_pos (by rfl)]
            unfold Oper.wp execOp
            generalize A.eval = ev at e0 ⊢
            go_simp
            exact hK _ _ (hG.plain hdn (by decide) (by decide) (by decide) (by first | rfl | (simp; done) | (simp; omega) | (simp; assumption)))
          · intro dn us w6 A hev hy hG hcl hdn hdep K hK
            have e0 : A.eval (.tmp 10) = .int .i64 i := by rw [hev]; rfl
            rw [if_pos (by rfl)]
            unfold Oper.wp execOp
            generalize A.eval = ev at e0 ⊢
            go_simp
            exact hK _ _ (hG.plain hdn (by decide) (by decide) (by decide) (by first | rfl | (simp; done) | (simp; omega) | (simp; assumption)))
          · intro dn us w6 A hev hy hG hcl hdn hdep K hK
            have d1 : dn 1 = true := allD_mem hdep (by decide)
            have d2 : dn 2 = true := allD_mem hdep (by decide)
            have e0 : A.eval (.tmp 44) = .slice (some ⟨b, o, none⟩) l.length ac := by rw [hev]; exact hG.val hdn (by decide) d1
            have e1 : A.eval (.tmp 45) = .int .i64 i := by rw [hev]; exact hG.val hdn (by decide) d2
            rw [if_pos (by rfl)]
            unfold Oper.wp execOp
            generalize A.eval = ev at e0 e1 ⊢
            go_simp
            exact hK _ _ (hG.plain hdn (by decide) (by decide) (by decide) (by first | rfl | (simp; done) | (simp; omega) | (simp; assumption)))
          · intro dn us w6 A hev hy hG hcl hdn hdep K hK
            have d3 : dn 3 = true := allD_mem hdep (by decide)
            have e0 : A.eval (.tmp 46) = .pointer (some ⟨b, o + i * 5, none⟩) := by rw [hev]; exact hG.val hdn (by decide) d3
            rw [if_pos (by rfl)]
            unfold Oper.wp execOp
            generalize A.eval = ev at e0 ⊢
            go_simp
            exact hK _ _ (hG.plain hdn (by decide) (by decide) (by decide) (by first | rfl | (simp; done) | (simp; omega) | (simp; assumption)))
          · intro dn us w6 A hev hy hG hcl hdn hdep K hK
            have d4 : dn 4 = true := allD_mem hdep (by decide)
            have e0 : A.eval (.tmp 47) = .pointer (some ⟨b, o + i * 5 + 1, none⟩) := by rw [hev]; exact hG.val hdn (by decide) d4
            have hb6 := hG.below (hG.not hdn (by decide))
            have cc0 : w6.cell? ⟨b, o + i * 5 + 1, none⟩ = some (.int .i64 ac1.n) := by rw [hb6.cell (World.block_lt_of_cell? _ _ r1)]; exact r1
            rw [if_pos (by rfl)]
            unfold Oper.wp execOp
            generalize A.eval = ev at e0 ⊢
            go_simp
            exact hK _ _ (hG.plain hdn (by decide) (by decide) (by decide) (by first | rfl | (simp; done) | (simp; omega) | (simp; assumption)))
          · intro dn us w6 A hev hy hG hcl hdn hdep K hK
            have d5 : dn 5 = true := allD_mem hdep (by decide)
            have e0 : A.eval (.tmp 48) = .int .i64 ac1.n := by rw [hev]; exact hG.val hdn (by decide) d5
            have e1 : A.eval (.const (.int .i64 16)) = .int .i64 16 := by rw [hev]; rfl
            rw [if_pos (by rfl)]
            unfold Oper.wp execOp
            generalize A.eval = ev at e0 e1 ⊢
            go_simp
            exact hK _ _ (hG.plain hdn (by decide) (by decide) (by decide) (by first | rfl | (simp; done) | (simp; omega) | (simp; assumption)))
          · intro dn us w6 A hev hy hG hcl hdn hdep K hK
            have e0 : A.eval (.tmp 2) = .slice (some ⟨b, o, none⟩) l.length ac := by rw [hev]; rfl
            rw [if_pos (by rfl)]
            unfold Oper.wp execOp
            generalize A.eval = ev at e0 ⊢
            go_simp
            exact hK _ _ (hG.plain hdn (by decide) (by decide) (by decide) (by first | rfl | (simp; done) | (simp; omega) | (simp; assumption)))
          · intro dn us w6 A hev hy hG hcl hdn hdep K hK
            have e0 : A.eval (.tmp 10) = .int .i64 i := by rw [hev]; rfl
            rw [if_pos (by rfl)]
            unfold Oper.wp execOp
            generalize A.eval = ev at e0 ⊢
            go_simp
            exact hK _ _ (hG.plain hdn (by decide) (by decide) (by decide) (by first | rfl | (simp; done) | (simp; omega) | (simp; assumption)))
          · intro dn us w6 A hev hy hG hcl hdn hdep K hK
            have d7 : dn 7 = true := allD_mem hdep (by decide)
            have d8 : dn 8 = true := allD_mem hdep (by decide)
            have e0 : A.eval (.tmp 50) = .slice (some ⟨b, o, none⟩) l.length ac := by rw [hev]; exact hG.val hdn (by decide) d7
            have e1 : A.eval (.tmp 51) = .int .i64 i := by rw [hev]; exact hG.val hdn (by decide) d8
            rw [if_pos (by rfl)]
            unfold Oper.wp execOp
            generalize A.eval = ev at e0 e1 ⊢
            go_simp
            exact hK _ _ (hG.plain hdn (by decide) (by decide) (by decide) (by first | rfl | (simp; done) | (simp; omega) | (simp; assumption)))
          · intro dn us w6 A hev hy hG hcl hdn hdep K hK
            have d9 : dn 9 = true := allD_mem hdep (by decide)
            have e0 : A.eval (.tmp 52) = .pointer (some ⟨b, o + i * 5, none⟩) := by rw [hev]; exact hG.val hdn (by decide) d9
            rw [if_pos (by rfl)]
            unfold Oper.wp execOp
            generalize A.eval = ev at e0 ⊢
            go_simp
            exact hK _ _ (hG.plain hdn (by decide) (by decide) (by decide) (by first | rfl | (simp; done) | (simp; omega) | (simp; assumption)))
          · intro dn us w6 A hev hy hG hcl hdn hdep K hK
            have d10 : dn 10 = true := allD_mem hdep (by decide)
            have e0 : A.eval (.tmp 53) = .pointer (some ⟨b, o + i * 5 + 3, none⟩) := by rw [hev]; exact hG.val hdn (by decide) d10
            have hb6 := hG.below (hG.not hdn (by decide))
            have cc0 : w6.cell? ⟨b, o + i * 5 + 3, none⟩ = some (.int .u64 ac1.old) := by rw [hb6.cell (World.block_lt_of_cell? _ _ r3)]; exact r3
            rw [if_pos (by rfl)]
            unfold Oper.wp execOp
            generalize A.eval = ev at e0 ⊢
            go_simp
            exact hK _ _ (hG.plain hdn (by decide) (by decide) (by decide) (by first | rfl | (simp; done) | (simp; omega) | (simp; assumption)))
          · intro dn us w6 A hev hy hG hcl hdn hdep K hK
            have e0 : A.eval (.tmp 2) = .slice (some ⟨b, o, none⟩) l.length ac := by rw [hev]; rfl
            rw [if_pos (by rfl)]
            unfold Oper.wp execOp
            generalize A.eval = ev at e0 ⊢
            go_simp
            exact hK _ _ (hG.plain hdn (by decide) (by decide) (by decide) (by first | rfl | (simp; done) | (simp; omega) | (simp; assumption)))
          · intro dn us w6 A hev hy hG hcl hdn hdep K hK
            have e0 : A.eval (.tmp 10) = .int .i64 i := by rw [hev]; rfl
            rw [if_pos (by rfl)]
            unfold Oper.wp execOp
            generalize A.eval = ev at e0 ⊢
            go_simp
            exact hK _ _ (hG.plain hdn (by decide) (by decide) (by decide) (by first | rfl | (simp; done) | (simp; omega) | (simp; assumption)))
          · intro dn us w6 A hev hy hG hcl hdn hdep K hK
            have d12 : dn 12 = true := allD_mem hdep (by decide)
            have d13 : dn 13 = true := allD_mem hdep (by decide)
            have e0 : A.eval (.tmp 55) = .slice (some ⟨b, o, none⟩) l.length ac := by rw [hev]; exact hG.val hdn (by decide) d12
            have e1 : A.eval (.tmp 56) = .int .i64 i := by rw [hev]; exact hG.val hdn (by decide) d13
            rw [if_pos (by rfl)]
            unfold Oper.wp execOp
            generalize A.eval = ev at e0 e1 ⊢
            go_simp
            exact hK _ _ (hG.plain hdn (by decide) (by decide) (by decide) (by first | rfl | (simp; done) | (simp; omega) | (simp; assumption)))
          · intro dn us w6 A hev hy hG hcl hdn hdep K hK
            have d14 : dn 14 = true := allD_mem hdep (by decide)
            have e0 : A.eval (.tmp 57) = .pointer (some ⟨b, o + i * 5, none⟩) := by rw [hev]; exact hG.val hdn (by decide) d14
            rw [if_pos (by rfl)]
            unfold Oper.wp execOp
            generalize A.eval = ev at e0 ⊢
            go_simp
            exact hK _ _ (hG.plain hdn (by decide) (by decide) (by decide) (by first | rfl | (simp; done) | (simp; omega) | (simp; assumption)))
          · intro dn us w6 A hev hy hG hcl hdn hdep K hK
            have d15 : dn 15 = true := allD_mem hdep (by decide)
            have e0 : A.eval (.tmp 58) = .pointer (some ⟨b, o + i * 5 + 4, none⟩) := by rw [hev]; exact hG.val hdn (by decide) d15
            have hb6 := hG.below (hG.not hdn (by decide))
            have cc0 : w6.cell? ⟨b, o + i * 5 + 4, none⟩ = some (.int .u64 ac1.w) := by rw [hb6.cell (World.block_lt_of_cell? _ _ r4)]; exact r4
            rw [if_pos (by rfl)]
            unfold Oper.wp execOp
            generalize A.eval = ev at e0 ⊢
            go_simp
            exact hK _ _ (hG.plain hdn (by decide) (by decide) (by decide) (by first | rfl | (simp; done) | (simp; omega) | (simp; assumption)))
          · intro dn us w6 A hev hy hG hcl hdn hdep K hK
            have d0 : dn 0 = true := allD_mem hdep (by decide)
            have d6 : dn 6 = true := allD_mem hdep (by decide)
            have d11 : dn 11 = true := allD_mem hdep (by decide)
            have d16 : dn 16 = true := allD_mem hdep (by decide)
            have d5 : dn 5 = true := allD_mem (hcl 6 d6) (by decide)
            have d4 : dn 4 = true := allD_mem (hcl 5 d5) (by decide)
            have d3 : dn 3 = true := allD_mem (hcl 4 d4) (by decide)
            have d1 : dn 1 = true := allD_mem (hcl 3 d3) (by decide)
            have d2 : dn 2 = true := allD_mem (hcl 3 d3) (by decide)
            have d10 : dn 10 = true := allD_mem (hcl 11 d11) (by decide)
            have d9 : dn 9 = true := allD_mem (hcl 10 d10) (by decide)
            have d7 : dn 7 = true := allD_mem (hcl 9 d9) (by decide)
            have d8 : dn 8 = true := allD_mem (hcl 9 d9) (by decide)
            have d15 : dn 15 = true := allD_mem (hcl 16 d16) (by decide)
            have d14 : dn 14 = true := allD_mem (hcl 15 d15) (by decide)
            have d12 : dn 12 = true := allD_mem (hcl 14 d14) (by decide)
            have d13 : dn 13 = true := allD_mem (hcl 14 d14) (by decide)
            have hall : ∀ j, j < 17 → dn j = true := by
              intro j hj
              have hjj : j = 0 ∨ j = 1 ∨ j = 2 ∨ j = 3 ∨ j = 4 ∨ j = 5 ∨ j = 6 ∨ j = 7 ∨ j = 8 ∨ j = 9 ∨ j = 10 ∨ j = 11 ∨ j = 12 ∨ j = 13 ∨ j = 14 ∨ j = 15 ∨ j = 16 := by omega
              rcases hjj with rfl | rfl | rfl | rfl | rfl | rfl | rfl | rfl | rfl | rfl | rfl | rfl | rfl | rfl | rfl | rfl | rfl <;> assumption
            have e0 : A.eval (.tmp 43) = .pointer (some ⟨k.bw, 0, none⟩) := by rw [hev]; exact hG.valS hdn d0
            have e1 : A.eval (.tmp 49) = .int .i64 (ac1.n % 16) := by rw [hev]; exact hG.valS hdn d6
            have e2 : A.eval (.tmp 54) = .int .u64 ac1.old := by rw [hev]; exact hG.valS hdn d11
            have e3 : A.eval (.tmp 59) = .int .u64 ac1.w := by rw [hev]; exact hG.valS hdn d16
            have ef : A.eval (.func 12) = .func (.func 12) #[] #[] := by rw [hev]; rfl
            have hb6 := hG.below hdn
            rw [if_pos (by rfl)]
            unfold Oper.wp execOp
            generalize A.eval = ev at e0 e1 e2 e3 ef ⊢
            go_simp
            refine (wturn_any (ac1.n % 16) ac1.old ac1.w w6 (HHR.out.below hb6) HFT.out.2.2).mono ?_
            rintro e wq ⟨rfl, hH, hO⟩
            exact hK _ _ (LG.stored hall ⟨hH, (Only.ofBelow _ hb6).trans hO⟩)
          intro dn us wb hG hall
          obtain ⟨hHb, hOb⟩ := hG.st (hall 17 (by decide))
          simp only [fillA, fillT, Nat.reduceAdd, List.setIfInBounds_toArray, List.set_cons_zero, List.set_cons_succ]
          clear hG hall
          obtain ⟨sb, hRb⟩ : ∃ sb, RsAt c vw x.items.length k g (w.heap.size + 1) i w sb y b1 m1 d1 b2 m2 d2 wb := ⟨_, hR2.turned hHb hOb (hR2.ow.turn hH.ok _ _ _)⟩
          have HRB := Lib.hid hRb
          generalize wb = wx at *
          clear hR2 r0 r1 r2 r3 r4 hbo hz
          have hst := sstep_any (N := NotK k g (w.heap.size + 1)) y wx hRb.holds hRb.in_ (fun a b c => let ⟨p, l, q, r⟩ := hRb.good.act a b c; ⟨p, l, q, by omega⟩) hRb.good.next hRb.ow.b (NotK.fresh hRb.holds hRb.at_.lt hRb.call.lt) (fun z hz => hz.1)
          have HST := Lib.hid hst
          clear hst
          go_wp2_with (first
            | (refine wpl_st rfl 40 _ _ rfl (Scn.cells (sb.scnStep y).2 (.slice p1 q1 s1) (.slice p2 q2 s2)) rfl _ rfl (HRB.out.at_.only O3 HRB.out.gk.1) (by kernel_rfl) rfl rfl rfl ?_; intro w4 A4 O4)
            | (go_at_call 13; refine HST.out.mono ?_; rintro e w3 hS
               obtain ⟨lv3, pv3, rfl, H3, I3, O3⟩ := hS.out
               obtain ⟨p1, q1, s1, rfl⟩ := I3.lists.formN
               obtain ⟨p2, s2, rfl⟩ := I3.pairs.form
               generalize hq2 : (sb.scnStep y).2.pairs.length = q2 at *
               clear hq2)
            | (refine wpl_ld rfl 40 _ rfl (y.cells (.slice b1 m1 d1) (.slice b2 m2 d2)) rfl _ HRB.out.at_ Try.underlying40 rfl (by kernel_rfl) rfl ?_))
          go_roundg (l.length - (i + 1))
          case measure => omega
          case rel => exact ⟨i + 1, rfl, by omega, (sb.scnStep y).1, (sb.scnStep y).2, p1, q1, s1, p2, q2, s2, HRB.out.stepped HLV.out H3 O3 I3 OG.out A4 O4⟩
        · have hH := hR2.holds
          obtain ⟨sb, hRb⟩ : ∃ sb, RsAt c vw x.items.length k g (w.heap.size + 1) i w sb y b1 m1 d1 b2 m2 d2 wr := ⟨s, hR2⟩
          have hnb : decide (0 ≤ ac1.n) = false := decide_eq_false hn
          have HRB := Lib.hid hRb
          generalize wr = wx at *
          clear hR2 hbo hz
          have hst := sstep_any (N := NotK k g (w.heap.size + 1)) y wx hRb.holds hRb.in_ (fun a b c => let ⟨p, l, q, r⟩ := hRb.good.act a b c; ⟨p, l, q, by omega⟩) hRb.good.next hRb.ow.b (NotK.fresh hRb.holds hRb.at_.lt hRb.call.lt) (fun z hz => hz.1)
          have HST := Lib.hid hst
          clear hst
          go_wp2_with (first
            | (refine wpl_st rfl 40 _ _ rfl (Scn.cells (sb.scnStep y).2 (.slice p1 q1 s1) (.slice p2 q2 s2)) rfl _ rfl (HRB.out.at_.only O3 HRB.out.gk.1) (by kernel_rfl) rfl rfl rfl ?_; intro w4 A4 O4)
            | (go_at_call 13; refine HST.out.mono ?_; rintro e w3 hS
               obtain ⟨lv3, pv3, rfl, H3, I3, O3⟩ := hS.out
               obtain ⟨p1, q1, s1, rfl⟩ := I3.lists.formN
               obtain ⟨p2, s2, rfl⟩ := I3.pairs.form
               generalize hq2 : (sb.scnStep y).2.pairs.length = q2 at *
               clear hq2)
            | (refine wpl_ld rfl 40 _ rfl (y.cells (.slice b1 m1 d1) (.slice b2 m2 d2)) rfl _ HRB.out.at_ Try.underlying40 rfl (by kernel_rfl) rfl ?_))
          go_roundg (l.length - (i + 1))
          case measure => omega
          case rel => exact ⟨i + 1, rfl, by omega, (sb.scnStep y).1, (sb.scnStep y).2, p1, q1, s1, p2, q2, s2, HRB.out.stepped HLV.out H3 O3 I3 OG.out A4 O4⟩
      · have e : i = l.length := by omega
        have hfin := finish_any (N := NotK k g (w.heap.size + 1)) (m := i) y wr hR.holds hR.in_ hR.good (by omega) hR.ow.b (NotK.fresh hR.holds hR.at_.lt hR.call.lt) (fun z hz => hz.1)
        have htold := (iter_R HLV.out hR.ow hR.scn 300).2.end_
        generalize scnIter 300 (s, y) = y1 at *
        have HFIN := Lib.hid hfin
        have HTL := Lib.hid htold
        clear hfin htold
        go_wp2_with (first
          | (go_at_call 14; refine HFIN.out.mono ?_; rintro e w4 hS4
             obtain ⟨lv4, pv4, rfl, H4, I4, O4⟩ := hS4.out
             obtain ⟨pa, pc, rfl⟩ := I4.pairs.form)
          | (refine wpl_ld rfl 40 _ rfl (y.cells (.slice b1 m1 d1) (.slice b2 m2 d2)) rfl _ HR.out.at_ Try.underlying40 rfl (by kernel_rfl) rfl ?_))
        rw [field_result]
        go_wp2_with fail
        rw [field_pairs]
        have hPI := I4.pairs
        have hD4 := HR.out.below.trans (O4.below HR.out.below.size fun z hz e => by have := HR.out.own z e; omega)
        have hBC := HR.out.call.only O4 HR.out.gk.2.1
        have htold := HTL.out
        clear hS4 H4 I4 O4 HFIN HTL hR
        generalize y1.2.pairs = pp at *
        have hfew := htold.few
        have hpp : pp.length ≤ 9223372036854775807 := by
          have h9 : c.limit ≤ 9223372036854775807 := HLM.out
          omega
        obtain ⟨pn, hpn⟩ : ∃ pn, pn = pp.length := ⟨_, rfl⟩
        have HPN := Lib.hid hpn
        rw [← hpn] at hPI hfew hpp ⊢
        have HT := Lib.hid htold
        have HPI := Lib.hid hPI
        have hmx : (pn : Int) ≤ max c.limit 0 := by omega
        clear hpn htold hPI
        go_wp2_with fail
        go_loopg [12] pn (fun gg v12 wr => ∃ i : Nat, v12 = .int .i64 i ∧ i + gg = pn ∧ Below w4.heap.size w4 wr)
        case atStart => exact ⟨0, rfl, by omega, Below.refl _ _⟩
        case round =>
          obtain ⟨i, rfl, hi, hb⟩ := hrel
          have hBW := hBC.below' hb
          have k1 : wr.cell? ⟨w.heap.size + 1, 1, none⟩ = some (.int .u64 c.key) := hBW.cell 1
          have k2 : wr.cell? ⟨w.heap.size + 1, 2, none⟩ = some (.int .u64 c.val) := hBW.cell 2
          have k3 : wr.cell? ⟨w.heap.size + 1, 3, none⟩ = some (.int .i64 c.limit) := hBW.cell 3
          by_cases hlt : i < pn
          · obtain ⟨p, hpi⟩ : ∃ p, pp[i]? = some p := ⟨_, List.getElem?_eq_getElem (by rw [← HPN.out]; exact hlt)⟩
            obtain ⟨pb, po, rfl, _, p0, _⟩ := (HPI.out.below hb).at_ hpi
            obtain ⟨g1, g2⟩ := HT.out.in_.range p (List.mem_of_getElem? hpi)
            cases i with
            | zero =>
              rw [Nat.zero_mul, Nat.add_zero] at p0
              go_wp2_with fail
              refine wp_region_J (l := [_, _, _, _, _, _, _, _, _, _, _, _, _, _, _, _, _, _, _, _, _, _, _, _, _, _, _, _, _, _, _, _, _, _, _, _]) (QG (fun j v => match j with | 0 => v = .slice (some ⟨pb, po, none⟩) pn pc | 1 => v = .int .i64 0 | 2 => v = .pointer (some ⟨pb, po, none⟩) | 3 => v = .pointer (some ⟨pb, po, none⟩) | 4 => v = .int .u64 p.1 | 5 => v = .pointer (some ⟨w.heap.size + 1, 1, none⟩) | 6 => v = .int .u64 c.key | 7 => v = .bool false | 8 => v = .bool false | 9 => v = .slice (some ⟨pb, po, none⟩) pn pc | 10 => v = .int .i64 0 | 11 => v = .pointer (some ⟨pb, po, none⟩) | 12 => v = .pointer (some ⟨pb, po, none⟩) | 13 => v = .int .u64 p.1 | 14 => v = .pointer (some ⟨w.heap.size + 1, 2, none⟩) | 15 => v = .int .u64 c.val | 16 => v = .bool false | 17 => v = .bool false | 18 => v = .bool false | 19 => v = .int .i64 0 | 20 => v = .bool false | 21 => v = .bool false | 34 => v = .bool false | 35 => v = .bool false | _ => True) wr) (by kernel_rfl) (by kernel_rfl) (fun us => QG.start us) ⟨?_, ?_, ?_, ?_, ?_, ?_, ?_, ?_, ?_, ?_, ?_, ?_, ?_, ?_, ?_, ?_, ?_, ?_, ?_, ?_, ?_, ?_, ?_, ?_, ?_, ?_, ?_, ?_, ?_, ?_, ?_, ?_, ?_, ?_, ?_, ?_, trivial⟩ ?_
              · intro dn us w6 A hev hy hG hdn hdep K hK
                have e0 : A.eval (.tmp 11) = .slice (some ⟨pb, po, none⟩) pn pc := by rw [hev]; rfl
                rw [if_pos (by rfl)]
                unfold Oper.wp execOp
                generalize A.eval = ev at e0 ⊢
                go_simp
                exact hK _ _ (hG.first (by first | rfl | (simp; done) | (simp; omega) | (simp; assumption)))
              · intro dn us w6 A hev hy hG hdn hdep K hK
                have e0 : A.eval (.tmp 12) = .int .i64 0 := by rw [hev]; rfl
                rw [if_pos (by rfl)]
                unfold Oper.wp execOp
                generalize A.eval = ev at e0 ⊢
                go_simp
                exact hK _ _ (hG.first (by first | rfl | (simp; done) | (simp; omega) | (simp; assumption)))
              · intro dn us w6 A hev hy hG hdn hdep K hK
                have d0 : dn 0 = true := allD_mem hdep (by decide)
                have d1 : dn 1 = true := allD_mem hdep (by decide)
                have e0 : A.eval (.tmp 75) = .slice (some ⟨pb, po, none⟩) pn pc := by rw [hev]; exact hG.pre 0 d0
                have e1 : A.eval (.tmp 76) = .int .i64 0 := by rw [hev]; exact hG.pre 1 d1
                rw [if_pos (by rfl)]
                unfold Oper.wp execOp
                generalize A.eval = ev at e0 e1 ⊢
                go_simp
                exact hK _ _ (hG.first (by first | rfl | (simp; done) | (simp; omega) | (simp; assumption)))
              · intro dn us w6 A hev hy hG hdn hdep K hK
                have d2 : dn 2 = true := allD_mem hdep (by decide)
                have e0 : A.eval (.tmp 77) = .pointer (some ⟨pb, po, none⟩) := by rw [hev]; exact hG.pre 2 d2
                rw [if_pos (by rfl)]
                unfold Oper.wp execOp
                generalize A.eval = ev at e0 ⊢
                go_simp
                exact hK _ _ (hG.first (by first | rfl | (simp; done) | (simp; omega) | (simp; assumption)))
              · intro dn us w6 A hev hy hG hdn hdep K hK
                have d3 : dn 3 = true := allD_mem hdep (by decide)
                have e0 : A.eval (.tmp 78) = .pointer (some ⟨pb, po, none⟩) := by rw [hev]; exact hG.pre 3 d3
                have zp0 : w6.cell? ⟨pb, po, none⟩ = some (.int .u64 p.1) := by rw [hG.below.cell (World.block_lt_of_cell? _ _ p0)]; exact p0
                rw [if_pos (by rfl)]
                unfold Oper.wp execOp
                generalize A.eval = ev at e0 ⊢
                go_simp
                exact hK _ _ (hG.first (by first | rfl | (simp; done) | (simp; omega) | (simp; assumption)))
              · intro dn us w6 A hev hy hG hdn hdep K hK
                have e0 : A.eval (.tmp 4) = .pointer (some ⟨w.heap.size + 1, 0, none⟩) := by rw [hev]; rfl
                rw [if_pos (by rfl)]
                unfold Oper.wp execOp
                generalize A.eval = ev at e0 ⊢
                go_simp
                exact hK _ _ (hG.first (by first | rfl | (simp; done) | (simp; omega) | (simp; assumption)))
              · intro dn us w6 A hev hy hG hdn hdep K hK
                have d5 : dn 5 = true := allD_mem hdep (by decide)
                have e0 : A.eval (.tmp 80) = .pointer (some ⟨w.heap.size + 1, 1, none⟩) := by rw [hev]; exact hG.pre 5 d5
                have zk1 : w6.cell? ⟨w.heap.size + 1, 1, none⟩ = some (.int .u64 c.key) := by rw [hG.below.cell (World.block_lt_of_cell? _ _ k1)]; exact k1
                rw [if_pos (by rfl)]
                unfold Oper.wp execOp
                generalize A.eval = ev at e0 ⊢
                go_simp
                exact hK _ _ (hG.first (by first | rfl | (simp; done) | (simp; omega) | (simp; assumption)))
              · intro dn us w6 A hev hy hG hdn hdep K hK
                have d4 : dn 4 = true := allD_mem hdep (by decide)
                have d6 : dn 6 = true := allD_mem hdep (by decide)
                have e0 : A.eval (.tmp 79) = .int .u64 p.1 := by rw [hev]; exact hG.pre 4 d4
                have e1 : A.eval (.tmp 81) = .int .u64 c.key := by rw [hev]; exact hG.pre 6 d6
                rw [if_pos (by rfl)]
                unfold Oper.wp execOp
                generalize A.eval = ev at e0 e1 ⊢
                go_simp
                exact hK _ _ (hG.first (by first | rfl | (simp; done) | (simp; omega) | (simp; assumption)))
              · intro dn us w6 A hev hy hG hdn hdep K hK
                have d7 : dn 7 = true := allD_mem hdep (by decide)
                have e0 : A.eval (.tmp 82) = .bool false := by rw [hev]; exact hG.pre 7 d7
                rw [if_pos (by rfl)]
                unfold Oper.wp execOp
                generalize A.eval = ev at e0 ⊢
                go_simp
                exact hK _ _ (hG.first (by first | rfl | (simp; done) | (simp; omega) | (simp; assumption)))
              · intro dn us w6 A hev hy hG hdn hdep K hK
                have d8 : dn 8 = true := allD_mem hdep (by decide)
                have e0 : A.eval (.tmp 11) = .slice (some ⟨pb, po, none⟩) pn pc := by rw [hev]; rfl
                have hg : us 8 = .bool false := hG.pre 8 d8
                rw [if_pos (by rw [hy]; show ((match us 8 with | .bool b => some b | _ => none) == some false) = true; rw [hg]; rfl)]
                unfold Oper.wp execOp
                generalize A.eval = ev at e0 ⊢
                go_simp
                exact hK _ _ (hG.first (by first | rfl | (simp; done) | (simp; omega) | (simp; assumption)))
              · intro dn us w6 A hev hy hG hdn hdep K hK
                have d8 : dn 8 = true := allD_mem hdep (by decide)
                have e0 : A.eval (.tmp 12) = .int .i64 0 := by rw [hev]; rfl
                have hg : us 8 = .bool false := hG.pre 8 d8
                rw [if_pos (by rw [hy]; show ((match us 8 with | .bool b => some b | _ => none) == some false) = true; rw [hg]; rfl)]
                unfold Oper.wp execOp
                generalize A.eval = ev at e0 ⊢
                go_simp
                exact hK _ _ (hG.first (by first | rfl | (simp; done) | (simp; omega) | (simp; assumption)))
              · intro dn us w6 A hev hy hG hdn hdep K hK
                have d8 : dn 8 = true := allD_mem hdep (by decide)
                have d9 : dn 9 = true := allD_mem hdep (by decide)
                have d10 : dn 10 = true := allD_mem hdep (by decide)
                have e0 : A.eval (.tmp 84) = .slice (some ⟨pb, po, none⟩) pn pc := by rw [hev]; exact hG.pre 9 d9
                have e1 : A.eval (.tmp 85) = .int .i64 0 := by rw [hev]; exact hG.pre 10 d10
                have hg : us 8 = .bool false := hG.pre 8 d8
                rw [if_pos (by rw [hy]; show ((match us 8 with | .bool b => some b | _ => none) == some false) = true; rw [hg]; rfl)]
                unfold Oper.wp execOp
                generalize A.eval = ev at e0 e1 ⊢
                go_simp
                exact hK _ _ (hG.first (by first | rfl | (simp; done) | (simp; omega) | (simp; assumption)))
              · intro dn us w6 A hev hy hG hdn hdep K hK
                have d8 : dn 8 = true := allD_mem hdep (by decide)
                have d11 : dn 11 = true := allD_mem hdep (by decide)
                have e0 : A.eval (.tmp 86) = .pointer (some ⟨pb, po, none⟩) := by rw [hev]; exact hG.pre 11 d11
                have hg : us 8 = .bool false := hG.pre 8 d8
                rw [if_pos (by rw [hy]; show ((match us 8 with | .bool b => some b | _ => none) == some false) = true; rw [hg]; rfl)]
                unfold Oper.wp execOp
                generalize A.eval = ev at e0 ⊢
                go_simp
                exact hK _ _ (hG.first (by first | rfl | (simp; done) | (simp; omega) | (simp; assumption)))
              · intro dn us w6 A hev hy hG hdn hdep K hK
                have d8 : dn 8 = true := allD_mem hdep (by decide)
                have d12 : dn 12 = true := allD_mem hdep (by decide)
                have e0 : A.eval (.tmp 87) = .pointer (some ⟨pb, po, none⟩) := by rw [hev]; exact hG.pre 12 d12
                have zp0 : w6.cell? ⟨pb, po, none⟩ = some (.int .u64 p.1) := by rw [hG.below.cell (World.block_lt_of_cell? _ _ p0)]; exact p0
                have hg : us 8 = .bool false := hG.pre 8 d8
                rw [if_pos (by rw [hy]; show ((match us 8 with | .bool b => some b | _ => none) == some false) = true; rw [hg]; rfl)]
                unfold Oper.wp execOp
                generalize A.eval = ev at e0 ⊢
                go_simp
                exact hK _ _ (hG.first (by first | rfl | (simp; done) | (simp; omega) | (simp; assumption)))
              · intro dn us w6 A hev hy hG hdn hdep K hK
                have d8 : dn 8 = true := allD_mem hdep (by decide)
                have e0 : A.eval (.tmp 4) = .pointer (some ⟨w.heap.size + 1, 0, none⟩) := by rw [hev]; rfl
                have hg : us 8 = .bool false := hG.pre 8 d8
                rw [if_pos (by rw [hy]; show ((match us 8 with | .bool b => some b | _ => none) == some false) = true; rw [hg]; rfl)]
                unfold Oper.wp execOp
                generalize A.eval = ev at e0 ⊢
                go_simp
                exact hK _ _ (hG.first (by first | rfl | (simp; done) | (simp; omega) | (simp; assumption)))
              · intro dn us w6 A hev hy hG hdn hdep K hK
                have d8 : dn 8 = true := allD_mem hdep (by decide)
                have d14 : dn 14 = true := allD_mem hdep (by decide)
                have e0 : A.eval (.tmp 89) = .pointer (some ⟨w.heap.size + 1, 2, none⟩) := by rw [hev]; exact hG.pre 14 d14
                have zk2 : w6.cell? ⟨w.heap.size + 1, 2, none⟩ = some (.int .u64 c.val) := by rw [hG.below.cell (World.block_lt_of_cell? _ _ k2)]; exact k2
                have hg : us 8 = .bool false := hG.pre 8 d8
                rw [if_pos (by rw [hy]; show ((match us 8 with | .bool b => some b | _ => none) == some false) = true; rw [hg]; rfl)]
                unfold Oper.wp execOp
                generalize A.eval = ev at e0 ⊢
                go_simp
                exact hK _ _ (hG.first (by first | rfl | (simp; done) | (simp; omega) | (simp; assumption)))
              · intro dn us w6 A hev hy hG hdn hdep K hK
                have d8 : dn 8 = true := allD_mem hdep (by decide)
                have d13 : dn 13 = true := allD_mem hdep (by decide)
                have d15 : dn 15 = true := allD_mem hdep (by decide)
                have e0 : A.eval (.tmp 88) = .int .u64 p.1 := by rw [hev]; exact hG.pre 13 d13
                have e1 : A.eval (.tmp 90) = .int .u64 c.val := by rw [hev]; exact hG.pre 15 d15
                have hg : us 8 = .bool false := hG.pre 8 d8
                rw [if_pos (by rw [hy]; show ((match us 8 with | .bool b => some b | _ => none) == some false) = true; rw [hg]; rfl)]
                unfold Oper.wp execOp
                generalize A.eval = ev at e0 e1 ⊢
                go_simp
                exact hK _ _ (hG.first (by first | rfl | (simp; done) | (simp; omega) | (simp; assumption)))
              · intro dn us w6 A hev hy hG hdn hdep K hK
                have d8 : dn 8 = true := allD_mem hdep (by decide)
                have d16 : dn 16 = true := allD_mem hdep (by decide)
                have e0 : A.eval (.tmp 83) = .bool false := by rw [hev]; exact hG.pre 8 d8
                have e1 : A.eval (.const (.bool true)) = .bool true := by rw [hev]; rfl
                have e2 : A.eval (.tmp 91) = .bool false := by rw [hev]; exact hG.pre 16 d16
                rw [if_pos (by rfl)]
                unfold Oper.wp execOp
                generalize A.eval = ev at e0 e1 e2 ⊢
                go_simp
                exact hK _ _ (hG.first (by first | rfl | (simp; done) | (simp; omega) | (simp; assumption)))
              · intro dn us w6 A hev hy hG hdn hdep K hK
                have d17 : dn 17 = true := allD_mem hdep (by decide)
                have e0 : A.eval (.tmp 92) = .bool false := by rw [hev]; exact hG.pre 17 d17
                rw [if_pos (by rfl)]
                unfold Oper.wp execOp
                generalize A.eval = ev at e0 ⊢
                go_simp
                exact hK _ _ (hG.first (by first | rfl | (simp; done) | (simp; omega) | (simp; assumption)))
              · intro dn us w6 A hev hy hG hdn hdep K hK
                have d18 : dn 18 = true := allD_mem hdep (by decide)
                have e0 : A.eval (.tmp 12) = .int .i64 0 := by rw [hev]; rfl
                have hg : us 18 = .bool false := hG.pre 18 d18
                rw [if_pos (by rw [hy]; show ((match us 18 with | .bool b => some b | _ => none) == some false) = true; rw [hg]; rfl)]
                unfold Oper.wp execOp
                generalize A.eval = ev at e0 ⊢
                go_simp
                exact hK _ _ (hG.first (by first | rfl | (simp; done) | (simp; omega) | (simp; assumption)))
              · intro dn us w6 A hev hy hG hdn hdep K hK
                have d18 : dn 18 = true := allD_mem hdep (by decide)
                have d19 : dn 19 = true := allD_mem hdep (by decide)
                have e0 : A.eval (.tmp 94) = .int .i64 0 := by rw [hev]; exact hG.pre 19 d19
                have e1 : A.eval (.const (.int .i64 0)) = .int .i64 0 := by rw [hev]; rfl
                have hg : us 18 = .bool false := hG.pre 18 d18
                rw [if_pos (by rw [hy]; show ((match us 18 with | .bool b => some b | _ => none) == some false) = true; rw [hg]; rfl)]
                unfold Oper.wp execOp
                generalize A.eval = ev at e0 e1 ⊢
                go_simp
                exact hK _ _ (hG.first (by first | rfl | (simp; done) | (simp; omega) | (simp; assumption)))
              · intro dn us w6 A hev hy hG hdn hdep K hK
                have d18 : dn 18 = true := allD_mem hdep (by decide)
                have d20 : dn 20 = true := allD_mem hdep (by decide)
                have e0 : A.eval (.tmp 95) = .bool false := by rw [hev]; exact hG.pre 20 d20
                have hg : us 18 = .bool false := hG.pre 18 d18
                rw [if_pos (by rw [hy]; show ((match us 18 with | .bool b => some b | _ => none) == some false) = true; rw [hg]; rfl)]
                unfold Oper.wp execOp
                generalize A.eval = ev at e0 ⊢
                go_simp
                exact hK _ _ (hG.first (by first | rfl | (simp; done) | (simp; omega) | (simp; assumption)))
              · intro dn us w6 A hev hy hG hdn hdep K hK
                have d21 : dn 21 = true := allD_mem hdep (by decide)
                have hg : us 21 = .bool false := hG.pre 21 d21
                rw [if_neg (by rw [hy]; show ¬ ((match us 21 with | .bool b => some b | _ => none) == some true) = true; rw [hg]; decide)]
                exact hK _ _ (hG.first trivial)
              · intro dn us w6 A hev hy hG hdn hdep K hK
                have d21 : dn 21 = true := allD_mem hdep (by decide)
                have hg : us 21 = .bool false := hG.pre 21 d21
                rw [if_neg (by rw [hy]; show ¬ ((match us 21 with | .bool b => some b | _ => none) == some true) = true; rw [hg]; decide)]
                exact hK _ _ (hG.first trivial)
              · intro dn us w6 A hev hy hG hdn hdep K hK
                have d21 : dn 21 = true := allD_mem hdep (by decide)
                have hg : us 21 = .bool false := hG.pre 21 d21
                rw [if_neg (by rw [hy]; show ¬ ((match us 21 with | .bool b => some b | _ => none) == some true) = true; rw [hg]; decide)]
                exact hK _ _ (hG.first trivial)
              · intro dn us w6 A hev hy hG hdn hdep K hK
                have d21 : dn 21 = true := allD_mem hdep (by decide)
                have hg : us 21 = .bool false := hG.pre 21 d21
                rw [if_neg (by rw [hy]; show ¬ ((match us 21 with | .bool b => some b | _ => none) == some true) = true; rw [hg]; decide)]
                exact hK _ _ (hG.first trivial)
              · intro dn us w6 A hev hy hG hdn hdep K hK
                have d21 : dn 21 = true := allD_mem hdep (by decide)
                have hg : us 21 = .bool false := hG.pre 21 d21
                rw [if_neg (by rw [hy]; show ¬ ((match us 21 with | .bool b => some b | _ => none) == some true) = true; rw [hg]; decide)]
                exact hK _ _ (hG.first trivial)
              · intro dn us w6 A hev hy hG hdn hdep K hK
                have d21 : dn 21 = true := allD_mem hdep (by decide)
                have hg : us 21 = .bool false := hG.pre 21 d21
                rw [if_neg (by rw [hy]; show ¬ ((match us 21 with | .bool b => some b | _ => none) == some true) = true; rw [hg]; decide)]
                exact hK _ _ (hG.first trivial)
              · intro dn us w6 A hev hy hG hdn hdep K hK
                have d21 : dn 21 = true := allD_mem hdep (by decide)
                have hg : us 21 = .bool false := hG.pre 21 d21
                rw [if_neg (by rw [hy]; show ¬ ((match us 21 with | .bool b => some b | _ => none) == some true) = true; rw [hg]; decide)]
                exact hK _ _ (hG.first trivial)
              · intro dn us w6 A hev hy hG hdn hdep K hK
                have d21 : dn 21 = true := allD_mem hdep (by decide)
                have e0 : A.eval (.const (.int .i64 1)) = .int .i64 1 := by rw [hev]; rfl
                have hg : us 21 = .bool false := hG.pre 21 d21
                rw [if_neg (by rw [hy]; show ¬ ((match us 21 with | .bool b => some b | _ => none) == some true) = true; rw [hg]; decide)]
                exact hK _ _ (hG.first trivial)
              · intro dn us w6 A hev hy hG hdn hdep K hK
                have d21 : dn 21 = true := allD_mem hdep (by decide)
                have hg : us 21 = .bool false := hG.pre 21 d21
                rw [if_neg (by rw [hy]; show ¬ ((match us 21 with | .bool b => some b | _ => none) == some true) = true; rw [hg]; decide)]
                exact hK _ _ (hG.first trivial)
              · intro dn us w6 A hev hy hG hdn hdep K hK
                have d21 : dn 21 = true := allD_mem hdep (by decide)
                have hg : us 21 = .bool false := hG.pre 21 d21
                rw [if_neg (by rw [hy]; show ¬ ((match us 21 with | .bool b => some b | _ => none) == some true) = true; rw [hg]; decide)]
                exact hK _ _ (hG.first trivial)
              · intro dn us w6 A hev hy hG hdn hdep K hK
                have d21 : dn 21 = true := allD_mem hdep (by decide)
                have hg : us 21 = .bool false := hG.pre 21 d21
                rw [if_neg (by rw [hy]; show ¬ ((match us 21 with | .bool b => some b | _ => none) == some true) = true; rw [hg]; decide)]
                exact hK _ _ (hG.first trivial)
              · intro dn us w6 A hev hy hG hdn hdep K hK
                have d21 : dn 21 = true := allD_mem hdep (by decide)
                have hg : us 21 = .bool false := hG.pre 21 d21
                rw [if_neg (by rw [hy]; show ¬ ((match us 21 with | .bool b => some b | _ => none) == some true) = true; rw [hg]; decide)]
                exact hK _ _ (hG.first trivial)
              · intro dn us w6 A hev hy hG hdn hdep K hK
                have d18 : dn 18 = true := allD_mem hdep (by decide)
                have d21 : dn 21 = true := allD_mem hdep (by decide)
                have e0 : A.eval (.tmp 96) = .bool false := by rw [hev]; exact hG.pre 21 d21
                have e1 : A.eval (.const (.bool false)) = .bool false := by rw [hev]; rfl
                have hg : us 18 = .bool false := hG.pre 18 d18
                rw [if_pos (by rw [hy]; show ((match us 18 with | .bool b => some b | _ => none) == some false) = true; rw [hg]; rfl)]
                unfold Oper.wp execOp
                generalize A.eval = ev at e0 e1 ⊢
                go_simp
                exact hK _ _ (hG.first (by first | rfl | (simp; done) | (simp; omega) | (simp; assumption)))
              · intro dn us w6 A hev hy hG hdn hdep K hK
                have d18 : dn 18 = true := allD_mem hdep (by decide)
                have d34 : dn 34 = true := allD_mem hdep (by decide)
                have e0 : A.eval (.tmp 93) = .bool false := by rw [hev]; exact hG.pre 18 d18
                have e1 : A.eval (.const (.bool true)) = .bool true := by rw [hev]; rfl
                have e2 : A.eval (.tmp 109) = .bool false := by rw [hev]; exact hG.pre 34 d34
                rw [if_pos (by rfl)]
                unfold Oper.wp execOp
                generalize A.eval = ev at e0 e1 e2 ⊢
                go_simp
                exact hK _ _ (hG.first (by first | rfl | (simp; done) | (simp; omega) | (simp; assumption)))
              intro dn us wA hG hall
              have u35 : us 35 = .bool false := hG.pre 35 (hall 35 (by decide))
              have DA := hG.below
              simp only [fillA, fillT, Nat.reduceAdd, List.setIfInBounds_toArray, List.set_cons_zero, List.set_cons_succ, u35]
              clear hG hall u35
              go_wp2_with fail
              go_roundg (pn - (0 + 1))
              case measure => omega
              case rel => exact ⟨0 + 1, rfl, by omega, hb.trans (DA.mono hb.size)⟩
            | succ jj =>
              obtain ⟨q, hqj⟩ : ∃ q, pp[jj]? = some q := ⟨_, List.getElem?_eq_getElem (by rw [← HPN.out]; omega)⟩
              obtain ⟨pb', po', e1, _, q0, _⟩ := (HPI.out.below hb).at_ hqj
              injection e1 with e1
              injection e1 with e1 e2
              subst e1; subst e2
              have hrise := List.pairwise_iff_getElem.1 HT.out.in_.rises jj (jj + 1) (List.getElem?_eq_some_iff.1 hqj).1 (List.getElem?_eq_some_iff.1 hpi).1 (Nat.lt_succ_self jj)
              rw [(List.getElem?_eq_some_iff.1 hqj).2, (List.getElem?_eq_some_iff.1 hpi).2] at hrise
              obtain ⟨i, hii⟩ : ∃ i, i = jj + 1 := ⟨_, rfl⟩
              rw [← hii] at p0 hlt hi ⊢
              have hij : (i : Int) - 1 = (jj : Int) := by omega
              have hwj : IntKind.i64.wrap (jj : Int) = (jj : Int) := IntWalk.i64_in _ (by omega)
              have hjl : jj < pn := by omega
              clear hpi hqj hii
              go_wp2_with fail
              refine wp_region_J (l := [_, _, _, _, _, _, _, _, _, _, _, _, _, _, _, _, _, _, _, _, _, _, _, _, _, _, _, _, _, _, _, _, _, _, _, _]) (QG (fun j v => match j with | 0 => v = .slice (some ⟨pb, po, none⟩) pn pc | 1 => v = .int .i64 i | 2 => v = .pointer (some ⟨pb, po + i * 2, none⟩) | 3 => v = .pointer (some ⟨pb, po + i * 2, none⟩) | 4 => v = .int .u64 p.1 | 5 => v = .pointer (some ⟨w.heap.size + 1, 1, none⟩) | 6 => v = .int .u64 c.key | 7 => v = .bool false | 8 => v = .bool false | 9 => v = .slice (some ⟨pb, po, none⟩) pn pc | 10 => v = .int .i64 i | 11 => v = .pointer (some ⟨pb, po + i * 2, none⟩) | 12 => v = .pointer (some ⟨pb, po + i * 2, none⟩) | 13 => v = .int .u64 p.1 | 14 => v = .pointer (some ⟨w.heap.size + 1, 2, none⟩) | 15 => v = .int .u64 c.val | 16 => v = .bool false | 17 => v = .bool false | 18 => v = .bool false | 19 => v = .int .i64 i | 20 => v = .bool true | 21 => v = .bool true | 22 => v = .slice (some ⟨pb, po, none⟩) pn pc | 23 => v = .int .i64 i | 24 => v = .pointer (some ⟨pb, po + i * 2, none⟩) | 25 => v = .pointer (some ⟨pb, po + i * 2, none⟩) | 26 => v = .int .u64 p.1 | 27 => v = .slice (some ⟨pb, po, none⟩) pn pc | 28 => v = .int .i64 i | 29 => v = .int .i64 jj | 30 => v = .pointer (some ⟨pb, po + jj * 2, none⟩) | 31 => v = .pointer (some ⟨pb, po + jj * 2, none⟩) | 32 => v = .int .u64 q.1 | 33 => v = .bool false | 34 => v = .bool false | 35 => v = .bool false | _ => True) wr) (by kernel_rfl) (by kernel_rfl) (fun us => QG.start us) ⟨?_, ?_, ?_, ?_, ?_, ?_, ?_, ?_, ?_, ?_, ?_, ?_, ?_, ?_, ?_, ?_, ?_, ?_, ?_, ?_, ?_, ?_, ?_, ?_, ?_, ?_, ?_, ?_, ?_, ?_, ?_, ?_, ?_, ?_, ?_, ?_, trivial⟩ ?_
              · intro dn us w6 A hev hy hG hdn hdep K hK
                have e0 : A.eval (.tmp 11) = .slice (some ⟨pb, po, none⟩) pn pc := by rw [hev]; rfl
                rw [if_pos (by rfl)]
                unfold Oper.wp execOp
                generalize A.eval = ev at e0 ⊢
                go_simp
                exact hK _ _ (hG.first (by first | rfl | (simp; done) | (simp; omega) | (simp; assumption)))
              · intro dn us w6 A hev hy hG hdn hdep K hK
                have e0 : A.eval (.tmp 12) = .int .i64 i := by rw [hev]; rfl
                rw [if_pos (by rfl)]
                unfold Oper.wp execOp
                generalize A.eval = ev at e0 ⊢
                go_simp
                exact hK _ _ (hG.first (by first | rfl | (simp; done) | (simp; omega) | (simp; assumption)))
              · intro dn us w6 A hev hy hG hdn hdep K hK
                have d0 : dn 0 = true := allD_mem hdep (by decide)
                have d1 : dn 1 = true := allD_mem hdep (by decide)
                have e0 : A.eval (.tmp 75) = .slice (some ⟨pb, po, none⟩) pn pc := by rw [hev]; exact hG.pre 0 d0
                have e1 : A.eval (.tmp 76) = .int .i64 i := by rw [hev]; exact hG.pre 1 d1
                rw [if_pos (by rfl)]
                unfold Oper.wp execOp
                generalize A.eval = ev at e0 e1 ⊢
                go_simp
                exact hK _ _ (hG.first (by first | rfl | (simp; done) | (simp; omega) | (simp; assumption)))
              · intro dn us w6 A hev hy hG hdn hdep K hK
                have d2 : dn 2 = true := allD_mem hdep (by decide)
                have e0 : A.eval (.tmp 77) = .pointer (some ⟨pb, po + i * 2, none⟩) := by rw [hev]; exact hG.pre 2 d2
                rw [if_pos (by rfl)]
                unfold Oper.wp execOp
                generalize A.eval = ev at e0 ⊢
                go_simp
                exact hK _ _ (hG.first (by first | rfl | (simp; done) | (simp; omega) | (simp; assumption)))
              · intro dn us w6 A hev hy hG hdn hdep K hK
                have d3 : dn 3 = true := allD_mem hdep (by decide)
                have e0 : A.eval (.tmp 78) = .pointer (some ⟨pb, po + i * 2, none⟩) := by rw [hev]; exact hG.pre 3 d3
                have zp0 : w6.cell? ⟨pb, po + i * 2, none⟩ = some (.int .u64 p.1) := by rw [hG.below.cell (World.block_lt_of_cell? _ _ p0)]; exact p0
                rw [if_pos (by rfl)]
                unfold Oper.wp execOp
                generalize A.eval = ev at e0 ⊢
                go_simp
                exact hK _ _ (hG.first (by first | rfl | (simp; done) | (simp; omega) | (simp; assumption)))
              · intro dn us w6 A hev hy hG hdn hdep K hK
                have e0 : A.eval (.tmp 4) = .pointer (some ⟨w.heap.size + 1, 0, none⟩) := by rw [hev]; rfl
                rw [if_pos (by rfl)]
                unfold Oper.wp execOp
                generalize A.eval = ev at e0 ⊢
                go_simp
                exact hK _ _ (hG.first (by first | rfl | (simp; done) | (simp; omega) | (simp; assumption)))
              · intro dn us w6 A hev hy hG hdn hdep K hK
                have d5 : dn 5 = true := allD_mem hdep (by decide)
                have e0 : A.eval (.tmp 80) = .pointer (some ⟨w.heap.size + 1, 1, none⟩) := by rw [hev]; exact hG.pre 5 d5
                have zk1 : w6.cell? ⟨w.heap.size + 1, 1, none⟩ = some (.int .u64 c.key) := by rw [hG.below.cell (World.block_lt_of_cell? _ _ k1)]; exact k1
                rw [if_pos (by rfl)]
                unfold Oper.wp execOp
                generalize A.eval = ev at e0 ⊢
                go_simp
                exact hK _ _ (hG.first (by first | rfl | (simp; done) | (simp; omega) | (simp; assumption)))
              · intro dn us w6 A hev hy hG hdn hdep K hK
                have d4 : dn 4 = true := allD_mem hdep (by decide)
                have d6 : dn 6 = true := allD_mem hdep (by decide)
                have e0 : A.eval (.tmp 79) = .int .u64 p.1 := by rw [hev]; exact hG.pre 4 d4
                have e1 : A.eval (.tmp 81) = .int .u64 c.key := by rw [hev]; exact hG.pre 6 d6
                rw [if_pos (by rfl)]
                unfold Oper.wp execOp
                generalize A.eval = ev at e0 e1 ⊢
                go_simp
                exact hK _ _ (hG.first (by first | rfl | (simp; done) | (simp; omega) | (simp; assumption)))
              · intro dn us w6 A hev hy hG hdn hdep K hK
                have d7 : dn 7 = true := allD_mem hdep (by decide)
                have e0 : A.eval (.tmp 82) = .bool false := by rw [hev]; exact hG.pre 7 d7
                rw [if_pos (by rfl)]
                unfold Oper.wp execOp
                generalize A.eval = ev at e0 ⊢
                go_simp
                exact hK _ _ (hG.first (by first | rfl | (simp; done) | (simp; omega) | (simp; assumption)))
              · intro dn us w6 A hev hy hG hdn hdep K hK
                have d8 : dn 8 = true := allD_mem hdep (by decide)
                have e0 : A.eval (.tmp 11) = .slice (some ⟨pb, po, none⟩) pn pc := by rw [hev]; rfl
                have hg : us 8 = .bool false := hG.pre 8 d8
                rw [if_pos (by rw [hy]; show ((match us 8 with | .bool b => some b | _ => none) == some false) = true; rw [hg]; rfl)]
                unfold Oper.wp execOp
                generalize A.eval = ev at e0 ⊢
                go_simp
                exact hK _ _ (hG.first (by first | rfl | (simp; done) | (simp; omega) | (simp; assumption)))
              · intro dn us w6 A hev hy hG hdn hdep K hK
                have d8 : dn 8 = true := allD_mem hdep (by decide)
                have e0 : A.eval (.tmp 12) = .int .i64 i := by rw [hev]; rfl
                have hg : us 8 = .bool false := hG.pre 8 d8
                rw [if_pos (by rw [hy]; show ((match us 8 with | .bool b => some b | _ => none) == some false) = true; rw [hg]; rfl)]
                unfold Oper.wp execOp
                generalize A.eval = ev at e0 ⊢
                go_simp
                exact hK _ _ (hG.first (by first | rfl | (simp; done) | (simp; omega) | (simp; assumption)))
              · intro dn us w6 A hev hy hG hdn hdep K hK
                have d8 : dn 8 = true := allD_mem hdep (by decide)
                have d9 : dn 9 = true := allD_mem hdep (by decide)
                have d10 : dn 10 = true := allD_mem hdep (by decide)
                have e0 : A.eval (.tmp 84) = .slice (some ⟨pb, po, none⟩) pn pc := by rw [hev]; exact hG.pre 9 d9
                have e1 : A.eval (.tmp 85) = .int .i64 i := by rw [hev]; exact hG.pre 10 d10
                have hg : us 8 = .bool false := hG.pre 8 d8
                rw [if_pos (by rw [hy]; show ((match us 8 with | .bool b => some b | _ => none) == some false) = true; rw [hg]; rfl)]
                unfold Oper.wp execOp
                generalize A.eval = ev at e0 e1 ⊢
                go_simp
                exact hK _ _ (hG.first (by first | rfl | (simp; done) | (simp; omega) | (simp; assumption)))
              · intro dn us w6 A hev hy hG hdn hdep K hK
                have d8 : dn 8 = true := allD_mem hdep (by decide)
                have d11 : dn 11 = true := allD_mem hdep (by decide)
                have e0 : A.eval (.tmp 86) = .pointer (some ⟨pb, po + i * 2, none⟩) := by rw [hev]; exact hG.pre 11 d11
                have hg : us 8 = .bool false := hG.pre 8 d8
                rw [if_pos (by rw [hy]; show ((match us 8 with | .bool b => some b | _ => none) == some false) = true; rw [hg]; rfl)]
                unfold Oper.wp execOp
                generalize A.eval = ev at e0 ⊢
                go_simp
                exact hK _ _ (hG.first (by first | rfl | (simp; done) | (simp; omega) | (simp; assumption)))
              · intro dn us w6 A hev hy hG hdn hdep K hK
                have d8 : dn 8 = true := allD_mem hdep (by decide)
                have d12 : dn 12 = true := allD_mem hdep (by decide)
                have e0 : A.eval (.tmp 87) = .pointer (some ⟨pb, po + i * 2, none⟩) := by rw [hev]; exact hG.pre 12 d12
                have zp0 : w6.cell? ⟨pb, po + i * 2, none⟩ = some (.int .u64 p.1) := by rw [hG.below.cell (World.block_lt_of_cell? _ _ p0)]; exact p0
                have hg : us 8 = .bool false := hG.pre 8 d8
                rw [if_pos (by rw [hy]; show ((match us 8 with | .bool b => some b | _ => none) == some false) = true; rw [hg]; rfl)]
                unfold Oper.wp execOp
                generalize A.eval = ev at e0 ⊢
                go_simp
                exact hK _ _ (hG.first (by first | rfl | (simp; done) | (simp; omega) | (simp; assumption)))
              · intro dn us w6 A hev hy hG hdn hdep K hK
                have d8 : dn 8 = true := allD_mem hdep (by decide)
                have e0 : A.eval (.tmp 4) = .pointer (some ⟨w.heap.size + 1, 0, none⟩) := by rw [hev]; rfl
                have hg : us 8 = .bool false := hG.pre 8 d8
                rw [if_pos (by rw [hy]; show ((match us 8 with | .bool b => some b | _ => none) == some false) = true; rw [hg]; rfl)]
                unfold Oper.wp execOp
                generalize A.eval = ev at e0 ⊢
                go_simp
                exact hK _ _ (hG.first (by first | rfl | (simp; done) | (simp; omega) | (simp; assumption)))
              · intro dn us w6 A hev hy hG hdn hdep K hK
                have d8 : dn 8 = true := allD_mem hdep (by decide)
                have d14 : dn 14 = true := allD_mem hdep (by decide)
                have e0 : A.eval (.tmp 89) = .pointer (some ⟨w.heap.size + 1, 2, none⟩) := by rw [hev]; exact hG.pre 14 d14
                have zk2 : w6.cell? ⟨w.heap.size + 1, 2, none⟩ = some (.int .u64 c.val) := by rw [hG.below.cell (World.block_lt_of_cell? _ _ k2)]; exact k2
                have hg : us 8 = .bool false := hG.pre 8 d8
                rw [if_pos (by rw [hy]; show ((match us 8 with | .bool b => some b | _ => none) == some false) = true; rw [hg]; rfl)]
                unfold Oper.wp execOp
                generalize A.eval = ev at e0 ⊢
                go_simp
                exact hK _ _ (hG.first (by first | rfl | (simp; done) | (simp; omega) | (simp; assumption)))
              · intro dn us w6 A hev hy hG hdn hdep K hK
                have d8 : dn 8 = true := allD_mem hdep (by decide)
                have d13 : dn 13 = true := allD_mem hdep (by decide)
                have d15 : dn 15 = true := allD_mem hdep (by decide)
                have e0 : A.eval (.tmp 88) = .int .u64 p.1 := by rw [hev]; exact hG.pre 13 d13
                have e1 : A.eval (.tmp 90) = .int .u64 c.val := by rw [hev]; exact hG.pre 15 d15
                have hg : us 8 = .bool false := hG.pre 8 d8
                rw [if_pos (by rw [hy]; show ((match us 8 with | .bool b => some b | _ => none) == some false) = true; rw [hg]; rfl)]
                unfold Oper.wp execOp
                generalize A.eval = ev at e0 e1 ⊢
                go_simp
                exact hK _ _ (hG.first (by first | rfl | (simp; done) | (simp; omega) | (simp; assumption)))
              · intro dn us w6 A hev hy hG hdn hdep K hK
                have d8 : dn 8 = true := allD_mem hdep (by decide)
                have d16 : dn 16 = true := allD_mem hdep (by decide)
                have e0 : A.eval (.tmp 83) = .bool false := by rw [hev]; exact hG.pre 8 d8
                have e1 : A.eval (.const (.bool true)) = .bool true := by rw [hev]; rfl
                have e2 : A.eval (.tmp 91) = .bool false := by rw [hev]; exact hG.pre 16 d16
                rw [if_pos (by rfl)]
                unfold Oper.wp execOp
                generalize A.eval = ev at e0 e1 e2 ⊢
                go_simp
                exact hK _ _ (hG.first (by first | rfl | (simp; done) | (simp; omega) | (simp; assumption)))
              · intro dn us w6 A hev hy hG hdn hdep K hK
                have d17 : dn 17 = true := allD_mem hdep (by decide)
                have e0 : A.eval (.tmp 92) = .bool false := by rw [hev]; exact hG.pre 17 d17
                rw [if_pos (by rfl)]
                unfold Oper.wp execOp
                generalize A.eval = ev at e0 ⊢
                go_simp
                exact hK _ _ (hG.first (by first | rfl | (simp; done) | (simp; omega) | (simp; assumption)))
              · intro dn us w6 A hev hy hG hdn hdep K hK
                have d18 : dn 18 = true := allD_mem hdep (by decide)
                have e0 : A.eval (.tmp 12) = .int .i64 i := by rw [hev]; rfl
                have hg : us 18 = .bool false := hG.pre 18 d18
                rw [if_pos (by rw [hy]; show ((match us 18 with | .bool b => some b | _ => none) == some false) = true; rw [hg]; rfl)]
                unfold Oper.wp execOp
                generalize A.eval = ev at e0 ⊢
                go_simp
                exact hK _ _ (hG.first (by first | rfl | (simp; done) | (simp; omega) | (simp; assumption)))
              · intro dn us w6 A hev hy hG hdn hdep K hK
                have d18 : dn 18 = true := allD_mem hdep (by decide)
                have d19 : dn 19 = true := allD_mem hdep (by decide)
                have e0 : A.eval (.tmp 94) = .int .i64 i := by rw [hev]; exact hG.pre 19 d19
                have e1 : A.eval (.const (.int .i64 0)) = .int .i64 0 := by rw [hev]; rfl
                have hg : us 18 = .bool false := hG.pre 18 d18
                rw [if_pos (by rw [hy]; show ((match us 18 with | .bool b => some b | _ => none) == some false) = true; rw [hg]; rfl)]
                unfold Oper.wp execOp
                generalize A.eval = ev at e0 e1 ⊢
                go_simp
                exact hK _ _ (hG.first (by first | rfl | (simp; done) | (simp; omega) | (simp; assumption)))
              · intro dn us w6 A hev hy hG hdn hdep K hK
                have d18 : dn 18 = true := allD_mem hdep (by decide)
                have d20 : dn 20 = true := allD_mem hdep (by decide)
                have e0 : A.eval (.tmp 95) = .bool true := by rw [hev]; exact hG.pre 20 d20
                have hg : us 18 = .bool false := hG.pre 18 d18
                rw [if_pos (by rw [hy]; show ((match us 18 with | .bool b => some b | _ => none) == some false) = true; rw [hg]; rfl)]
                unfold Oper.wp execOp
                generalize A.eval = ev at e0 ⊢
                go_simp
                exact hK _ _ (hG.first (by first | rfl | (simp; done) | (simp; omega) | (simp; assumption)))
              · intro dn us w6 A hev hy hG hdn hdep K hK
                have d21 : dn 21 = true := allD_mem hdep (by decide)
                have e0 : A.eval (.tmp 11) = .slice (some ⟨pb, po, none⟩) pn pc := by rw [hev]; rfl
                have hg : us 21 = .bool true := hG.pre 21 d21
                rw [if_pos (by rw [hy]; show ((match us 21 with | .bool b => some b | _ => none) == some true) = true; rw [hg]; rfl)]
                unfold Oper.wp execOp
                generalize A.eval = ev at e0 ⊢
                go_simp
                exact hK _ _ (hG.first (by first | rfl | (simp; done) | (simp; omega) | (simp; assumption)))
              · intro dn us w6 A hev hy hG hdn hdep K hK
                have d21 : dn 21 = true := allD_mem hdep (by decide)
                have e0 : A.eval (.tmp 12) = .int .i64 i := by rw [hev]; rfl
                have hg : us 21 = .bool true := hG.pre 21 d21
                rw [if_pos (by rw [hy]; show ((match us 21 with | .bool b => some b | _ => none) == some true) = true; rw [hg]; rfl)]
                unfold Oper.wp execOp
                generalize A.eval = ev at e0 ⊢
                go_simp
                exact hK _ _ (hG.first (by first | rfl | (simp; done) | (simp; omega) | (simp; assumption)))
              · intro dn us w6 A hev hy hG hdn hdep K hK
                have d21 : dn 21 = true := allD_mem hdep (by decide)
                have d22 : dn 22 = true := allD_mem hdep (by decide)
                have d23 : dn 23 = true := allD_mem hdep (by decide)
                have e0 : A.eval (.tmp 97) = .slice (some ⟨pb, po, none⟩) pn pc := by rw [hev]; exact hG.pre 22 d22
                have e1 : A.eval (.tmp 98) = .int .i64 i := by rw [hev]; exact hG.pre 23 d23
                have hg : us 21 = .bool true := hG.pre 21 d21
                rw [if_pos (by rw [hy]; show ((match us 21 with | .bool b => some b | _ => none) == some true) = true; rw [hg]; rfl)]
                unfold Oper.wp execOp
                generalize A.eval = ev at e0 e1 ⊢
                go_simp
                exact hK _ _ (hG.first (by first | rfl | (simp; done) | (simp; omega) | (simp; assumption)))
              · intro dn us w6 A hev hy hG hdn hdep K hK
                have d21 : dn 21 = true := allD_mem hdep (by decide)
                have d24 : dn 24 = true := allD_mem hdep (by decide)
                have e0 : A.eval (.tmp 99) = .pointer (some ⟨pb, po + i * 2, none⟩) := by rw [hev]; exact hG.pre 24 d24
                have hg : us 21 = .bool true := hG.pre 21 d21
                rw [if_pos (by rw [hy]; show ((match us 21 with | .bool b => some b | _ => none) == some true) = true; rw [hg]; rfl)]
                unfold Oper.wp execOp
                generalize A.eval = ev at e0 ⊢
                go_simp
                exact hK _ _ (hG.first (by first | rfl | (simp; done) | (simp; omega) | (simp; assumption)))
              · intro dn us w6 A hev hy hG hdn hdep K hK
                have d21 : dn 21 = true := allD_mem hdep (by decide)
                have d25 : dn 25 = true := allD_mem hdep (by decide)
                have e0 : A.eval (.tmp 100) = .pointer (some ⟨pb, po + i * 2, none⟩) := by rw [hev]; exact hG.pre 25 d25
                have zp0 : w6.cell? ⟨pb, po + i * 2, none⟩ = some (.int .u64 p.1) := by rw [hG.below.cell (World.block_lt_of_cell? _ _ p0)]; exact p0
                have hg : us 21 = .bool true := hG.pre 21 d21
                rw [if_pos (by rw [hy]; show ((match us 21 with | .bool b => some b | _ => none) == some true) = true; rw [hg]; rfl)]
                unfold Oper.wp execOp
                generalize A.eval = ev at e0 ⊢
                go_simp
                exact hK _ _ (hG.first (by first | rfl | (simp; done) | (simp; omega) | (simp; assumption)))
              · intro dn us w6 A hev hy hG hdn hdep K hK
                have d21 : dn 21 = true := allD_mem hdep (by decide)
                have e0 : A.eval (.tmp 11) = .slice (some ⟨pb, po, none⟩) pn pc := by rw [hev]; rfl
                have hg : us 21 = .bool true := hG.pre 21 d21
                rw [if_pos (by rw [hy]; show ((match us 21 with | .bool b => some b | _ => none) == some true) = true; rw [hg]; rfl)]
                unfold Oper.wp execOp
                generalize A.eval = ev at e0 ⊢
                go_simp
                exact hK _ _ (hG.first (by first | rfl | (simp; done) | (simp; omega) | (simp; assumption)))
              · intro dn us w6 A hev hy hG hdn hdep K hK
                have d21 : dn 21 = true := allD_mem hdep (by decide)
                have e0 : A.eval (.tmp 12) = .int .i64 i := by rw [hev]; rfl
                have hg : us 21 = .bool true := hG.pre 21 d21
                rw [if_pos (by rw [hy]; show ((match us 21 with | .bool b => some b | _ => none) == some true) = true; rw [hg]; rfl)]
                unfold Oper.wp execOp
                generalize A.eval = ev at e0 ⊢
                go_simp
                exact hK _ _ (hG.first (by first | rfl | (simp; done) | (simp; omega) | (simp; assumption)))
              · intro dn us w6 A hev hy hG hdn hdep K hK
                have d21 : dn 21 = true := allD_mem hdep (by decide)
                have d28 : dn 28 = true := allD_mem hdep (by decide)
                have e0 : A.eval (.tmp 103) = .int .i64 i := by rw [hev]; exact hG.pre 28 d28
                have e1 : A.eval (.const (.int .i64 1)) = .int .i64 1 := by rw [hev]; rfl
                have hg : us 21 = .bool true := hG.pre 21 d21
                rw [if_pos (by rw [hy]; show ((match us 21 with | .bool b => some b | _ => none) == some true) = true; rw [hg]; rfl)]
                unfold Oper.wp execOp
                generalize A.eval = ev at e0 e1 ⊢
                go_simp
                exact hK _ _ (hG.first (by first | rfl | (simp; done) | (simp; omega) | (simp; assumption)))
              · intro dn us w6 A hev hy hG hdn hdep K hK
                have d21 : dn 21 = true := allD_mem hdep (by decide)
                have d27 : dn 27 = true := allD_mem hdep (by decide)
                have d29 : dn 29 = true := allD_mem hdep (by decide)
                have e0 : A.eval (.tmp 102) = .slice (some ⟨pb, po, none⟩) pn pc := by rw [hev]; exact hG.pre 27 d27
                have e1 : A.eval (.tmp 104) = .int .i64 jj := by rw [hev]; exact hG.pre 29 d29
                have hg : us 21 = .bool true := hG.pre 21 d21
                rw [if_pos (by rw [hy]; show ((match us 21 with | .bool b => some b | _ => none) == some true) = true; rw [hg]; rfl)]
                unfold Oper.wp execOp
                generalize A.eval = ev at e0 e1 ⊢
                go_simp
                exact hK _ _ (hG.first (by first | rfl | (simp; done) | (simp; omega) | (simp; assumption)))
              · intro dn us w6 A hev hy hG hdn hdep K hK
                have d21 : dn 21 = true := allD_mem hdep (by decide)
                have d30 : dn 30 = true := allD_mem hdep (by decide)
                have e0 : A.eval (.tmp 105) = .pointer (some ⟨pb, po + jj * 2, none⟩) := by rw [hev]; exact hG.pre 30 d30
                have hg : us 21 = .bool true := hG.pre 21 d21
                rw [if_pos (by rw [hy]; show ((match us 21 with | .bool b => some b | _ => none) == some true) = true; rw [hg]; rfl)]
                unfold Oper.wp execOp
                generalize A.eval = ev at e0 ⊢
                go_simp
                exact hK _ _ (hG.first (by first | rfl | (simp; done) | (simp; omega) | (simp; assumption)))
              · intro dn us w6 A hev hy hG hdn hdep K hK
                have d21 : dn 21 = true := allD_mem hdep (by decide)
                have d31 : dn 31 = true := allD_mem hdep (by decide)
                have e0 : A.eval (.tmp 106) = .pointer (some ⟨pb, po + jj * 2, none⟩) := by rw [hev]; exact hG.pre 31 d31
                have zq0 : w6.cell? ⟨pb, po + jj * 2, none⟩ = some (.int .u64 q.1) := by rw [hG.below.cell (World.block_lt_of_cell? _ _ q0)]; exact q0
                have hg : us 21 = .bool true := hG.pre 21 d21
                rw [if_pos (by rw [hy]; show ((match us 21 with | .bool b => some b | _ => none) == some true) = true; rw [hg]; rfl)]
                unfold Oper.wp execOp
                generalize A.eval = ev at e0 ⊢
                go_simp
                exact hK _ _ (hG.first (by first | rfl | (simp; done) | (simp; omega) | (simp; assumption)))
              · intro dn us w6 A hev hy hG hdn hdep K hK
                have d21 : dn 21 = true := allD_mem hdep (by decide)
                have d26 : dn 26 = true := allD_mem hdep (by decide)
                have d32 : dn 32 = true := allD_mem hdep (by decide)
                have e0 : A.eval (.tmp 101) = .int .u64 p.1 := by rw [hev]; exact hG.pre 26 d26
                have e1 : A.eval (.tmp 107) = .int .u64 q.1 := by rw [hev]; exact hG.pre 32 d32
                have hg : us 21 = .bool true := hG.pre 21 d21
                rw [if_pos (by rw [hy]; show ((match us 21 with | .bool b => some b | _ => none) == some true) = true; rw [hg]; rfl)]
                unfold Oper.wp execOp
                generalize A.eval = ev at e0 e1 ⊢
                go_simp
                exact hK _ _ (hG.first (by first | rfl | (simp; done) | (simp; omega) | (simp; assumption)))
              · intro dn us w6 A hev hy hG hdn hdep K hK
                have d18 : dn 18 = true := allD_mem hdep (by decide)
                have d21 : dn 21 = true := allD_mem hdep (by decide)
                have d33 : dn 33 = true := allD_mem hdep (by decide)
                have e0 : A.eval (.tmp 96) = .bool true := by rw [hev]; exact hG.pre 21 d21
                have e1 : A.eval (.tmp 108) = .bool false := by rw [hev]; exact hG.pre 33 d33
                have e2 : A.eval (.const (.bool false)) = .bool false := by rw [hev]; rfl
                have hg : us 18 = .bool false := hG.pre 18 d18
                rw [if_pos (by rw [hy]; show ((match us 18 with | .bool b => some b | _ => none) == some false) = true; rw [hg]; rfl)]
                unfold Oper.wp execOp
                generalize A.eval = ev at e0 e1 e2 ⊢
                go_simp
                exact hK _ _ (hG.first (by first | rfl | (simp; done) | (simp; omega) | (simp; assumption)))
              · intro dn us w6 A hev hy hG hdn hdep K hK
                have d18 : dn 18 = true := allD_mem hdep (by decide)
                have d34 : dn 34 = true := allD_mem hdep (by decide)
                have e0 : A.eval (.tmp 93) = .bool false := by rw [hev]; exact hG.pre 18 d18
                have e1 : A.eval (.const (.bool true)) = .bool true := by rw [hev]; rfl
                have e2 : A.eval (.tmp 109) = .bool false := by rw [hev]; exact hG.pre 34 d34
                rw [if_pos (by rfl)]
                unfold Oper.wp execOp
                generalize A.eval = ev at e0 e1 e2 ⊢
                go_simp
                exact hK _ _ (hG.first (by first | rfl | (simp; done) | (simp; omega) | (simp; assumption)))
              intro dn us wA hG hall
              have u35 : us 35 = .bool false := hG.pre 35 (hall 35 (by decide))
              have DA := hG.below
              simp only [fillA, fillT, Nat.reduceAdd, List.setIfInBounds_toArray, List.set_cons_zero, List.set_cons_succ, u35]
              clear hG hall u35
              go_wp2_with fail
              go_roundg (pn - (i + 1))
              case measure => omega
              case rel => exact ⟨i + 1, rfl, by omega, hb.trans (DA.mono hb.size)⟩
          · have e : i = pn := by omega
            go_wp2_with fail
            all_goals go_ret
            all_goals first
              | exact ⟨rfl, hD4.trans (hb.mono hD4.size)⟩
              | exact ⟨congrArg (fun b => Ending.returned (.bool b)) (decide_eq_true (by omega)), hD4.trans (hb.mono hD4.size)⟩
end Go.Proofs.Ytccmjljlfgbicaa

/- ScanRises returns true for every scene, call and list of acts: whatever words are laid between its steps, what a scan tells rises, is in the range, and no more than the limit. No condition. -/
namespace Go.Proofs.Ytccmjljlfgbicaa.scanRises
open Go.ChangeShapes Go.WideShapes Go.ChangeAt Go.RowKit
set_option linter.unusedVariables false

theorem own : ownKnob Try.prog.godebug = none := by kernel_rfl
theorem laidOut : laidOutB Try.prog = true := by kernel_rfl

set_option maxRecDepth 100000 in
theorem lifted (os : Os) (started : os.Started) (H : Type) (enc : TypeId × Value → H) :
    ReturnsInHanded {} Try.checked os 3 .any (Rows.scanRisesSpec.pre6 enc Try.prog Try.f3 Rows.scanRisesRow.domain false) (Rows.scanRisesSpec.post enc Try.prog Try.f3 false true false false) := by
  refine returnsInHanded_of_change (C := Try.checked) own started (by kernel_rfl) Try.func3
    (ChangeSpec.witness6 (enc := enc) (C := Try.checked) false ⟨#[], #[.agg #[.int .u8 0, .slice none 0 0, .slice none 0 0], .agg #[.int .i64 0, .int .u64 0, .int .u64 0, .int .i64 0], .slice none 0 0], []⟩ 12 (by kernel_rfl) (by kernel_rfl) (by kernel_rfl) (by kernel_rfl)) ?_
  intro W base args ds gs before hval0 hW hcnd _
  have hval : ∀ (j : Nat) t v, Try.f3.params[j]? = some t → args[j]? = some v → Value.okWide Try.prog W .any base t v := hval0
  have hW' := hW
  obtain ⟨p, q, hA0, hV, rfl, hfz, hnd⟩ := hW
  have hA : DataW.TrodAll enc Try.prog W 0 (fun _ => true) true Try.f3.params.toList args.toList ds p := hA0
  rw [Try.params3] at hA hval
  obtain ⟨v0, vs0, d0, ds0, p0, q0, hargs, rfl, rfl, h0, r0⟩ := trodAll_cons hA
  obtain ⟨v1, vs1, d1, ds1, p1, q1, rfl, rfl, rfl, h1, r1⟩ := trodAll_cons r0
  obtain ⟨v2, vs2, d2, ds2, p2, q2, rfl, rfl, rfl, h2, r2⟩ := trodAll_cons r1
  obtain ⟨rfl, rfl, rfl⟩ := trodAll_nil r2
  obtain rfl : args = #[v0, v1, v2] := by cases args; simp_all
  obtain ⟨rfl, rfl⟩ := trodVars_none hV
  obtain ⟨c0, ia0, ca0, ic0, cc0, hS0, hx0⟩ := open_scene (hval 0 _ v0 rfl rfl) h0
  obtain ⟨c1, rfl, hf1, hm1⟩ := open_call (hval 1 _ v1 rfl rfl) h1
  obtain ⟨ao2, l2, ac2, rfl, hR2, hf2⟩ := open_acts_arg (hval 2 _ v2 rfl rfl) h2
  clear hA0 hval0
  simp only [List.append_nil] at hW'
  refine (rises_walk c1 W hx0 hS0 hf1 hm1 hR2 hf2).mono fun e W' ⟨he, hb⟩ => ?_
  subst he
  have hlt : ∀ y ∈ p0 ++ (p1 ++ (p2)), y.block < W.heap.size := fun y hy => by simpa using hW'.lt y (by simpa using hy)
  exact ⟨_, rfl, post_new hW' hb (fun _ _ _ => trodAll_cons_mk (shut_bool Try.underlying4 _) trodAll_mk0)
    (fun sp hsp => by
      have := (trodAll_cons_mk (WideElems.Trod_stays laidOut (by kernel_rfl) (of_decide_eq_true (by kernel_rfl)) h0 (fun y hy => hb.same (hlt y (List.mem_append_left _ hy))) (fun y hy => hsp y (List.mem_append_left _ hy))) (trodAll_cons_mk (WideElems.Trod_stays laidOut (by kernel_rfl) (of_decide_eq_true (by kernel_rfl)) h1 (fun y hy => hb.same (hlt y (List.mem_append_right _ (List.mem_append_left _ hy)))) (fun y hy => hsp y (List.mem_append_right _ (List.mem_append_left _ hy)))) (trodAll_cons_mk (WideElems.Trod_stays laidOut (by kernel_rfl) (of_decide_eq_true (by kernel_rfl)) h2 (fun y hy => hb.same (hlt y (List.mem_append_right _ (List.mem_append_right _ hy)))) (fun y hy => hsp y (List.mem_append_right _ (List.mem_append_right _ hy)))) trodAll_mk0)))
      simp only [List.append_nil] at this
      exact this)
    (fun _ => rfl) (ok_one (by kernel_rfl) rfl (okWide_bool_mk Try.underlying4 _))⟩

theorem over : Rows.scanRisesRow.holds Try.pinned (OpenSpec.ofChange Rows.scanRisesSpec) :=
  OpenClaim.holds_of_wide 3 Try.f3 rfl rfl rfl rfl rfl rfl rfl ⟨rfl, rfl, rfl, rfl, rfl⟩ rfl rfl rfl rfl rfl (by kernel_rfl) Try.func3 (by kernel_rfl)
    (of_decide_eq_true (by kernel_rfl)) (by unfold Func.isWrapper; first | (rw [if_pos (by decide +kernel)]; kernel_rfl) | (rw [if_neg (by decide +kernel)]; exact ⟨rfl, rfl⟩))
    (fun os started H enc _ => lifted os started H enc)

theorem proved : Rows.ScanRisesSaid :=
  over
#print axioms proved
end Go.Proofs.Ytccmjljlfgbicaa.scanRises

