/- Contracts of the document's answer: a new walk; a reference laid. -/
import Derived.Test.YtccmjljlfgbicaaGreatRefF
import Derived.Test.YtccmjljlfgbicaaGreatWalkA
import Derived.Test.YtccmjljlfgbicaaGreatRefH
import Derived.Deep.RegionHeld3
import Derived.Deep.RegionWith
namespace Go.Proofs.YtccmjljlfgbicaaGreat
open Go.ChangeShapes Go.WideShapes Go.ChangeAt Go.RowKit

theorem rv_no (r : RV) (s : St) : ∀ x, Value.int .u64 x ∉ (r.cells s).toList := by
  intro x h
  simp at h

set_option maxRecDepth 100000 in
set_option maxHeartbeats 1000000 in
theorem rwset_any {r : RV} {s : St} (n x : Int) (w : World) (h : RefIn w r s) (hok : s.ok) :
    Calls Tryz.prog 67 #[r.val s, .int .i64 n, .int .u64 x] w (RefOut w r (fun v => v) (s.store (s.nextAt n) x)) := by
  have H := Lib.hid h
  have HM := Lib.hid hok.may
  have HW := Lib.hid (st_words hok)
  clear h hok
  have A0 := (At.new w 45 (r.cells s)).alloc (.cells zero17 45)
  have A1 := At.new1 w (.cells (r.cells s) 45) 45 zero17
  go_enter Tryz.func67, Tryz.ntmps67
  go_wp2_with fail
  go_region_with (first
      | (go_at_call 105; refine (rnext_any s.c _ _ HM.out).mono ?_; rintro e w2 ⟨rfl, hb2⟩; have K2 := A0.drew.below' hb2; obtain ⟨⟨a0, a1, a2, a3, a4, a5, a6, -, -, -, -, -, -, -, -, -, -⟩, af, al⟩ := at17 K2)
      | (go_at_call 140; refine (rstore_any (p := r.w) _ _ _ (H.out.words.below ((below_twice w _ _).drew.trans (hb2.mono (by simp; omega)))) HW.out.2).mono ?_; rintro e w3 ⟨ao, cap, rfl, hr3, hb3, hao⟩; have K3 := K2.below' hb3; obtain ⟨⟨b0, b1, b2, b3, b4, b5, b6, -, -, -, -, -, -, -, -, -, -⟩, bf, bl⟩ := at17 K3))
  all_goals
    have hs2 := hb2.size
    simp at hs2
    have B3 : Below w.heap.size w w3 := ((below_twice w _ _).drew.trans (hb2.mono (by simp; omega))).trans (hb3.mono (by omega))
    have Z3 := (A1.drew.below' hb2).below' hb3
    have A0' : At ((w3.setCell ⟨w.heap.size, 5, none⟩ (.slice ao (storeL s.words (atOr n s.c.nodes n) x).length cap)).setCell ⟨w.heap.size, 6, none⟩ (.int .i64 (tick s.words (atOr n s.c.nodes n) s.steps))) w.heap.size 45 (RV.cells { r with w := (ao, cap) } (s.store (s.nextAt n) x)) := (K3.set 5 _).set 6 _
    have A1' := (Z3.far (p := ⟨w.heap.size, 5, none⟩) (by simp) (.slice ao (storeL s.words (atOr n s.c.nodes n) x).length cap)).far (p := ⟨w.heap.size, 6, none⟩) (by simp) (.int .i64 (tick s.words (atOr n s.c.nodes n) s.steps))
    have O1 := ((Only.refl (fun i => i = w.heap.size) w3).set (p := ⟨w.heap.size, 5, none⟩) (.inl rfl) (.slice ao (storeL s.words (atOr n s.c.nodes n) x).length cap)).set (p := ⟨w.heap.size, 6, none⟩) (.inl rfl) (.int .i64 (tick s.words (atOr n s.c.nodes n) s.steps))
    have hr4 := hr3.only O1 (fun b o hb _ => words_apart hr3 K3 (rv_no r s) (by have := store_len s (s.nextAt n) x; have := HW.out.1; show 0 < (s.store (s.nextAt n) x).words.length; omega) b o hb)
    have B4 := B3.trans (O1.below (by have := B3.size; omega) fun i hi hn => by omega)
    clear b0 b1 b2 b3 b4 b5 b6 bf bl a0 a1 a2 a3 a4 a5 a6 af al K2 K3 hr3
    generalize (w3.setCell ⟨w.heap.size, 5, none⟩ (.slice ao (storeL s.words (atOr n s.c.nodes n) x).length cap)).setCell ⟨w.heap.size, 6, none⟩ (.int .i64 (tick s.words (atOr n s.c.nodes n) s.steps)) = w4 at *
    go_upto_region 2 with fail
    refine wp_region_lit (l := [_, _]) ?_
    refine wpl_load rfl 45 (.tmp 3) rfl w.heap.size rfl (RV.cells { r with w := (ao, cap) } (s.store (s.nextAt n) x)) _ A0' Tryz.underlying45 rfl (by kernel_rfl) ?_
    refine wpl_store rfl 45 (.tmp 6) (.tmp 16) rfl (w.heap.size + 1) rfl (RV.cells { r with w := (ao, cap) } (s.store (s.nextAt n) x)) zero17 rfl A1' (by kernel_rfl) rfl (rv_one _ _) ?_
    intro w5 A5 O5
    refine wpList_nil ?_
    have hr5 := hr4.only O5 (fun b o hb _ => words_apart hr4 A1' zero17_no (by have := store_len s (s.nextAt n) x; have := HW.out.1; show 0 < (s.store (s.nextAt n) x).words.length; omega) b o hb)
    have B5 := B4.trans (O5.below (by have := B4.size; omega) fun i hi hn => by omega)
    clear A0' A1' O5 O1 hr4
    go_wp2_with fail
    exact bodyPost_ret (v := RV.val { r with w := (ao, cap) } (s.store (s.nextAt n) x)) (res_cell (fn := Tryz.f67) Tryz.results67 _ _ (w.heap.size + 1) _ _ rfl A5 Tryz.underlying45 rfl (by kernel_rfl)) rfl ⟨(ao, cap), rfl, hr5, B5, Fr.mono (show Fr _ r.w.1 ao from hao) (by omega)⟩


set_option maxRecDepth 100000 in
set_option maxHeartbeats 1000000 in
theorem rwalknew_any (key mode : Int) (w : World) :
    Calls Tryz.prog 28 #[.int .u64 key, .int .i64 mode] w fun e w' => e = .returned (.agg #[.int .u64 key, .int .i64 mode, .int .i64 0, .int .i64 0, .int .i64 0, .int .u64 0, .int .i64 (-1), .int .i64 (-1), .bool false, .bool false]) ∧ Below w.heap.size w w' := by
  go_enter Tryz.func28, Tryz.ntmps28
  go_wp2
  exact bodyPost_ret (v := .agg #[.int .u64 key, .int .i64 mode, .int .i64 0, .int .i64 0, .int .i64 0, .int .u64 0, .int .i64 (-1), .int .i64 (-1), .bool false, .bool false]) (by simp [results, Tryz.results28, go_sem]) rfl ⟨rfl, (Below.refl _ _).alloc (Nat.le_refl _) _⟩

end Go.Proofs.YtccmjljlfgbicaaGreat
