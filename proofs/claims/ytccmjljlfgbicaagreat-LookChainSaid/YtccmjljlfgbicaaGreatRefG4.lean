/- Contracts of the document's answer: a step of a world: Turn. (Printed by refgen.py.) -/
import Derived.Test.YtccmjljlfgbicaaGreatRefF
import Derived.Deep.RegionHeld3
namespace Go.Proofs.YtccmjljlfgbicaaGreat
open Go.ChangeShapes Go.WideShapes Go.ChangeAt Go.RowKit

set_option maxRecDepth 100000 in
set_option maxHeartbeats 4000000 in
theorem rwturn_any {r : RV} {s : St} (n old x : Int) (w : World) (h : RefIn w r s) (hok : s.ok) :
    Calls Tryz.prog 64 #[r.val s, .int .i64 n, .int .u64 old, .int .u64 x] w (RefOut w r (fun v => .tuple #[v, .bool (s.swaps (s.wordAt n) old)]) (s.swap (s.wordAt n) old x)) := by
  have H := Lib.hid h
  have HM := Lib.hid hok.may
  have HW := Lib.hid (st_words hok)
  clear h hok
  go_enter Tryz.func64, Tryz.ntmps64
  go_wp2_with fail
  have A0 := (At.new w 45 (r.cells s)).alloc (.cells zero17 45)
  have A1 := At.new1 w (.cells (r.cells s) 45) 45 zero17
  go_region_held3 (fun w' => w'.cell? ⟨w.heap.size, 0, none⟩ = some (.int .i64 s.c.threads) ∧ w'.cell? ⟨w.heap.size, 1, none⟩ = some (.int .i64 s.c.buckets) ∧ w'.cell? ⟨w.heap.size, 2, none⟩ = some (.int .i64 s.c.inserts) ∧ w'.cell? ⟨w.heap.size, 3, none⟩ = some (.int .i64 s.c.fuel) ∧ w'.cell? ⟨w.heap.size, 4, none⟩ = some (.int .i64 s.c.calls) ∧ w'.cell? ⟨w.heap.size, 5, none⟩ = some (.slice r.w.1 s.words.length r.w.2) ∧ w'.cell? ⟨w.heap.size, 6, none⟩ = some (.int .i64 s.steps) ∧ w'.cell? ⟨w.heap.size, 7, none⟩ = some (.int .i64 s.c.threads) ∧ w'.cell? ⟨w.heap.size, 8, none⟩ = some (.int .i64 s.c.buckets) ∧ w'.cell? ⟨w.heap.size, 9, none⟩ = some (.int .i64 s.c.inserts) ∧ w'.cell? ⟨w.heap.size, 10, none⟩ = some (.int .i64 s.c.fuel) ∧ w'.cell? ⟨w.heap.size, 11, none⟩ = some (.int .i64 s.c.calls) ∧ w'.cell? ⟨w.heap.size, 12, none⟩ = some (.slice r.cs.1 s.thr.length r.cs.2) ∧ w'.cell? ⟨w.heap.size, 13, none⟩ = some (.slice r.is.1 s.thr.length r.is.2) ∧ w'.cell? ⟨w.heap.size, 14, none⟩ = some (.slice r.ms.1 s.thr.length r.ms.2) ∧ w'.cell? ⟨w.heap.size, 15, none⟩ = some (.slice r.os.1 s.ops.length r.os.2) ∧ w'.cell? ⟨w.heap.size, 16, none⟩ = some (.slice r.ns.1 s.nodes.length r.ns.2))
    (first | go_keep | exact (at17 K3).1 | exact (at17 K2).1)
    ((first | (go_at_call 46; refine (rword_any s.c _ _ HM.out).mono ?_; rintro e w2 ⟨rfl, hb2⟩; have K2 := A0.drew.below' hb2) | (go_at_call 136; refine (rwswap_any (s.wordAt n) _ _ _ (H.out.below ((below_twice w _ _).drew.trans (hb2.mono (by simp; omega)))) HW.out.2 HW.out.1).mono ?_; rintro e w3 ⟨p', rfl, hr3, hb3, hf3⟩; have K3 := K2.below' hb3; have A3 := (A1.drew.below' hb2).below' hb3; obtain ⟨⟨z0, z1, z2, z3, z4, z5, z6, z7, z8, z9, z10, z11, z12, z13, z14, z15, z16⟩, zf, zl⟩ := at17 A3)))
  have hs2 := hb2.size
  simp at hs2
  have B3 : Below w.heap.size w w3 := ((below_twice w _ _).drew.trans (hb2.mono (by simp; omega))).trans (hb3.mono (by omega))
  clear z0 z1 z2 z3 z4 z5 z6 z7 z8 z9 z10 z11 z12 z13 z14 z15 z16 zf zl
  go_wp2_with fail
  exact bodyPost_ret (v := .tuple #[RV.val { r with w := p' } (s.swap (s.wordAt n) old x), .bool (s.swaps (s.wordAt n) old)]) (res_cell_tmp (fn := Tryz.f64) Tryz.results64 _ _ (w.heap.size + 1) _ _ rfl (put17 A3 _ _ _ _ _ _ _ _ _ _ _ _ _ _ _ _ _).1 Tryz.underlying45 rfl (by kernel_rfl)) rfl ⟨p', rfl, hr3.only (put17 A3 _ _ _ _ _ _ _ _ _ _ _ _ _ _ _ _ _).2 (fun b o hb _ => words_apart hr3 A3 zero17_no (by rw [swap_len]; exact HW.out.1) b o hb), B3.trans ((put17 A3 _ _ _ _ _ _ _ _ _ _ _ _ _ _ _ _ _).2.below (by have := B3.size; omega) fun i hi hn => by omega), hf3.mono (by omega)⟩

end Go.Proofs.YtccmjljlfgbicaaGreat
