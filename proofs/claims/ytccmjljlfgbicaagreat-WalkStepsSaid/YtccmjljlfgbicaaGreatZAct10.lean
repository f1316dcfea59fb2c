/- Contract of corrielaw10.act: something laid, in a world and in the document's answer. -/
import Derived.Test.YtccmjljlfgbicaaGreatZG15
import Derived.Test.YtccmjljlfgbicaaGreatZG22
import Derived.Test.YtccmjljlfgbicaaGreatZG14
namespace Go.Proofs.YtccmjljlfgbicaaGreat
open Go.ChangeShapes Go.WideShapes Go.ChangeAt Go.RowKit

abbrev GAct.c (a : GAct) : Array Value := #[.int .u8 a.kind, .int .i64 a.n, .int .u16 a.op, .int .u64 a.old, .int .u64 a.w]
/-- Something laid: a reference, or a word. -/
def St.act (s : St) (a : GAct) : St := if a.kind.tmod 3 = 1 then s.store (s.nextAt a.n) a.w else s.swap (s.wordAt a.n) a.old a.w
theorem Holds.new {k : Blks} {s0 s : St} {w w1 w2 : World} {S : Nat → Prop} (h0 : Holds k s0 w) (h : Holds k s w1) (ho : Only S w1 w2) (hS : ∀ i, S i → w.heap.size ≤ i) : Holds k s w2 := by
  have hb := h0.book.lt
  have hw := h0.world.lt
  have ho' := h0.own_lt
  refine h.keep ho (fun e => ?_) (fun e => ?_) (fun e => ?_) (fun e => ?_) (fun e => ?_) (fun e => ?_) (fun e => ?_) <;> have := hS _ e
  · omega
  · have := ho' _ (.inl rfl); omega
  · have := ho' _ (.inr (.inl rfl)); omega
  · omega
  · have := ho' _ (.inr (.inr (.inl rfl))); omega
  · have := ho' _ (.inr (.inr (.inr (.inl rfl)))); omega
  · have := ho' _ (.inr (.inr (.inr (.inr rfl)))); omega
theorem Only.thenNew {S T : Nat → Prop} {w w1 w2 : World} (h : Only S w w1) (h2 : Only T w1 w2) (hT : ∀ i, T i → w.heap.size ≤ i) : Only S w w2 :=
  ⟨h2.os.trans h.os, h2.tape.trans h.tape, h2.output.trans h.output, Nat.le_trans h.size h2.size, fun i hi hs => (h2.block i (Nat.lt_of_lt_of_le hi h.size) fun e => by have := hT i e; omega).trans (h.block i hi hs)⟩
theorem Aside.next' {k : Blks} {r : RV} {n : Nat} (ha : Aside k r) {p : Sl} (hf : Fr n r.w.1 p.1) (hn : ∀ i, Own k i → i < n) : Aside k { r with w := p } :=
  ⟨⟨ha.rows.cs, ha.rows.is, ha.rows.ms, ha.rows.os, ha.rows.ns⟩, hf.off (N := Own k) ha.words hn⟩

set_option maxRecDepth 100000 in
set_option maxHeartbeats 4000000 in
theorem act1_any {k : Blks} {r : RV} {s : St} (a : GAct) (w : World) (h : Both k r s w) (ha : a.fits) (hk : a.kind.tmod 3 = 1) :
    Calls Tryz.prog 29 #[.pointer (some ⟨k.bw, 0, none⟩), r.val s, .agg a.c] w fun e w' => ∃ p : Sl, e = .returned (RV.val { r with w := p } (s.act a)) ∧ Both k { r with w := p } (s.act a) w' ∧ Only (Own k) w w' := by
  have H := Lib.hid h
  have HA := Lib.hid ha
  have HOK := Lib.hid h.holds.ok
  have HTH := Lib.hid (show 0 < s.thr.length by have := h.holds.ok.thr; have := may_bounds h.holds.ok.may; omega)
  have hwl : 2 ≤ (s.store (s.nextAt a.n) a.w).words.length := by have := store_len s (s.nextAt a.n) a.w; have := words_two h.holds.ok; omega
  have hen : s.act a = (s.store (s.nextAt a.n) a.w) := by unfold St.act; exact if_pos hk
  have HE := Lib.hid hen
  have HW := Lib.hid hwl
  have hk1 : (a.kind.tmod 3 == 1) = true := by rw [hk]; rfl
  have A0 := ((At.new w 45 (r.cells s)).alloc (.cells a.c 61)).alloc (.cells zero17 45)
  have A1 := (At.new1 w (.cells (r.cells s) 45) 61 a.c).alloc (.cells zero17 45)
  have A2 := At.new1 (w.alloc (.cells (r.cells s) 45)) (.cells a.c 61) 45 zero17
  rw [World.size_alloc] at A2
  have D0 : Below w.heap.size w (((w.alloc (.cells (r.cells s) 45)).alloc (.cells a.c 61)).alloc (.cells zero17 45)) := (below_twice w _ _).alloc (by simp; omega) _
  clear h ha hwl hen hk
  go_enter Tryz.func29, Tryz.ntmps29
  go_upto_region 1 with fail
  generalize ((w.alloc (.cells (r.cells s) 45)).alloc (.cells a.c 61)).alloc (.cells zero17 45) = w0 at *
  obtain ⟨c0, c1, -, c3, c4⟩ := at5 A1
  have N0 : ¬ Own k w.heap.size := fun e => by have := H.out.holds.own_lt _ e; omega
  have N1 : ¬ Own k (w.heap.size + 1) := fun e => by have := H.out.holds.own_lt _ e; omega
  have N2 : ¬ Own k (w.heap.size + 1 + 1) := fun e => by have := H.out.holds.own_lt _ e; omega
  have H0 := H.out.below D0
  have HB0 := Lib.hid H0
  clear H0
  have hka : IntKind.u8.wrap (a.kind.tmod 3) = a.kind.tmod 3 := by
    have := HA.out.1
    rw [Int.tmod_eq_emod_of_nonneg this.1]
    exact IntWalk.u8_in _ (by omega)
  go_wp2_with (first
    | (refine wpl_st rfl 45 _ _ rfl (RV.cells { r with w := p' } (s.store (s.nextAt a.n) a.w)) rfl _ rfl C2 (by kernel_rfl) rfl rfl rfl ?_; intro w3 A3 O3)
    | (go_at_call 67; refine (rwset_any a.n a.w w1 HR1.out HOK.out).mono ?_; rintro e w2 ⟨p', rfl, hr2, hb2, hf2⟩; have C2 := B2.below' hb2)
    | (refine wpl_ld rfl 45 _ rfl (r.cells s) rfl _ B0 Tryz.underlying45 rfl (by kernel_rfl) rfl ?_)
    | (go_at_call 59; refine (wset_any a.n a.w w0 HB0.out.holds HA.out.2.2).mono ?_; rintro e w1 ⟨rfl, hH1, hO1⟩; obtain ⟨d0, d1, -, d3, d4⟩ := at5 (A1.only hO1 N1); have B0 := A0.only hO1 N0; have B2 := A2.only hO1 N2; have HR1 := Lib.hid (HB0.out.ref.aside HB0.out.aside hO1)))
  have hrd := hr2.only O3 fun b o e _ => words_apart2 hr2 C2 noTwo_zero17 HW.out b o e
  have hb3 : Below w1.heap.size w1 w2 := hb2
  have hH3 := Holds.new H.out.holds (hH1.below hb2) O3 fun i e => by have e' : i = w.heap.size + 1 + 1 := e; omega
  have hBk := (((HR1.out.book.below hb2).only O3 ((rows_lt H.out.ref.book HTH.out).imp fun b e => by have e' : b = w.heap.size + 1 + 1 := e; omega)).other (s' := (s.store (s.nextAt a.n) a.w)) rfl rfl rfl p' : BookIn w3 { r with w := p' } (s.store (s.nextAt a.n) a.w))
  have hO : Only (Own k) w w3 := ((Only.ofBelow _ D0).trans (hO1.thenBelow hb2)).thenNew O3 fun i e => by have e' : i = w.heap.size + 1 + 1 := e; omega
  exact bodyPost_ret (v := RV.val { r with w := p' } (s.store (s.nextAt a.n) a.w)) (res_cell (fn := Tryz.f29) Tryz.results29 _ _ (w.heap.size + 1 + 1) _ _ rfl A3 Tryz.underlying45 rfl (by kernel_rfl)) rfl ⟨p', by rw [HE.out], by rw [HE.out]; exact ⟨hH3, ⟨hrd, hBk⟩, H.out.aside.next' hf2 (fun i e => by have := H.out.holds.own_lt i e; have := D0.size; have := hO1.size; omega)⟩, hO⟩

set_option maxRecDepth 100000 in
set_option maxHeartbeats 4000000 in
theorem act2_any {k : Blks} {r : RV} {s : St} (a : GAct) (w : World) (h : Both k r s w) (ha : a.fits) (hk : ¬ a.kind.tmod 3 = 1) :
    Calls Tryz.prog 29 #[.pointer (some ⟨k.bw, 0, none⟩), r.val s, .agg a.c] w fun e w' => ∃ p : Sl, e = .returned (RV.val { r with w := p } (s.act a)) ∧ Both k { r with w := p } (s.act a) w' ∧ Only (Own k) w w' := by
  have H := Lib.hid h
  have HA := Lib.hid ha
  have HOK := Lib.hid h.holds.ok
  have HTH := Lib.hid (show 0 < s.thr.length by have := h.holds.ok.thr; have := may_bounds h.holds.ok.may; omega)
  have hwl : 2 ≤ (s.swap (s.wordAt a.n) a.old a.w).words.length := by rw [swap_len]; exact words_two h.holds.ok
  have hen : s.act a = (s.swap (s.wordAt a.n) a.old a.w) := by unfold St.act; exact if_neg hk
  have HE := Lib.hid hen
  have HW := Lib.hid hwl
  have hk1 : (a.kind.tmod 3 == 1) = false := by rw [beq_eq_false_iff_ne]; exact hk
  have A0 := ((At.new w 45 (r.cells s)).alloc (.cells a.c 61)).alloc (.cells zero17 45)
  have A1 := (At.new1 w (.cells (r.cells s) 45) 61 a.c).alloc (.cells zero17 45)
  have A2 := At.new1 (w.alloc (.cells (r.cells s) 45)) (.cells a.c 61) 45 zero17
  rw [World.size_alloc] at A2
  have D0 : Below w.heap.size w (((w.alloc (.cells (r.cells s) 45)).alloc (.cells a.c 61)).alloc (.cells zero17 45)) := (below_twice w _ _).alloc (by simp; omega) _
  clear h ha hwl hen hk
  go_enter Tryz.func29, Tryz.ntmps29
  go_upto_region 1 with fail
  generalize ((w.alloc (.cells (r.cells s) 45)).alloc (.cells a.c 61)).alloc (.cells zero17 45) = w0 at *
  obtain ⟨c0, c1, -, c3, c4⟩ := at5 A1
  have N0 : ¬ Own k w.heap.size := fun e => by have := H.out.holds.own_lt _ e; omega
  have N1 : ¬ Own k (w.heap.size + 1) := fun e => by have := H.out.holds.own_lt _ e; omega
  have N2 : ¬ Own k (w.heap.size + 1 + 1) := fun e => by have := H.out.holds.own_lt _ e; omega
  have H0 := H.out.below D0
  have HB0 := Lib.hid H0
  clear H0
  have hka : IntKind.u8.wrap (a.kind.tmod 3) = a.kind.tmod 3 := by
    have := HA.out.1
    rw [Int.tmod_eq_emod_of_nonneg this.1]
    exact IntWalk.u8_in _ (by omega)
  go_wp2_with (first
    | (refine wpl_st rfl 45 _ _ rfl (RV.cells { r with w := p' } (s.swap (s.wordAt a.n) a.old a.w)) rfl _ rfl C2b (by kernel_rfl) rfl rfl rfl ?_; intro w3 A3 O3)
    | (refine wpl_ld rfl 45 _ rfl (RV.cells { r with w := p' } (s.swap (s.wordAt a.n) a.old a.w)) rfl _ Ab Tryz.underlying45 rfl (by kernel_rfl) rfl ?_)
    | (refine wpl_st rfl 45 _ _ rfl (RV.cells { r with w := p' } (s.swap (s.wordAt a.n) a.old a.w)) rfl _ rfl (At.new w2 _ _) (by kernel_rfl) rfl rfl rfl ?_; intro wb Ab Ob
       have Db : Below w2.heap.size w2 wb := ((Below.refl _ w2).alloc (Nat.le_refl _) _).trans (Ob.below (by simp) fun j hj e => by have e' : j = w2.heap.size := e; omega)
       have C2b := C2.below' Db)
    | (go_at_call 64; refine (rwturn_any a.n a.old a.w w1 HR1.out HOK.out).mono ?_; rintro e w2 ⟨p', rfl, hr2, hb2, hf2⟩; have C2 := B2.below' hb2)
    | (refine wpl_ld rfl 45 _ rfl (r.cells s) rfl _ B0 Tryz.underlying45 rfl (by kernel_rfl) rfl ?_)
    | (go_at_call 47; refine (wturn_any a.n a.old a.w w0 HB0.out.holds HA.out.2.2).mono ?_; rintro e w1 ⟨rfl, hH1, hO1⟩; obtain ⟨d0, d1, -, d3, d4⟩ := at5 (A1.only hO1 N1); have B0 := A0.only hO1 N0; have B2 := A2.only hO1 N2; have HR1 := Lib.hid (HB0.out.ref.aside HB0.out.aside hO1)))
  have hb3 := hb2.trans (Db.mono hb2.size)
  have hrb := hr2.below Db
  have hrd := hrb.only O3 fun b o e _ => words_apart2 hrb C2b noTwo_zero17 HW.out b o e
  have hH3 := Holds.new H.out.holds (hH1.below hb3) O3 fun i e => by have e' : i = w.heap.size + 1 + 1 := e; omega
  have hBk := (((HR1.out.book.below hb3).only O3 ((rows_lt H.out.ref.book HTH.out).imp fun b e => by have e' : b = w.heap.size + 1 + 1 := e; omega)).other (s' := (s.swap (s.wordAt a.n) a.old a.w)) rfl rfl rfl p' : BookIn w3 { r with w := p' } (s.swap (s.wordAt a.n) a.old a.w))
  have hO : Only (Own k) w w3 := ((Only.ofBelow _ D0).trans (hO1.thenBelow hb3)).thenNew O3 fun i e => by have e' : i = w.heap.size + 1 + 1 := e; omega
  exact bodyPost_ret (v := RV.val { r with w := p' } (s.swap (s.wordAt a.n) a.old a.w)) (res_cell (fn := Tryz.f29) Tryz.results29 _ _ (w.heap.size + 1 + 1) _ _ rfl A3 Tryz.underlying45 rfl (by kernel_rfl)) rfl ⟨p', by rw [HE.out], by rw [HE.out]; exact ⟨hH3, ⟨hrd, hBk⟩, H.out.aside.next' hf2 (fun i e => by have := H.out.holds.own_lt i e; have := D0.size; have := hO1.size; omega)⟩, hO⟩

theorem act10_any {k : Blks} {r : RV} {s : St} (a : GAct) (w : World) (h : Both k r s w) (ha : a.fits) :
    Calls Tryz.prog 29 #[.pointer (some ⟨k.bw, 0, none⟩), r.val s, .agg a.c] w fun e w' => ∃ p : Sl, e = .returned (RV.val { r with w := p } (s.act a)) ∧ Both k { r with w := p } (s.act a) w' ∧ Only (Own k) w w' := by
  by_cases hk : a.kind.tmod 3 = 1
  · exact act1_any a w h ha hk
  · exact act2_any a w h ha hk
end Go.Proofs.YtccmjljlfgbicaaGreat

