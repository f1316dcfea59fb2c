/- Contracts of the world's Set and Head. -/
import Derived.Test.YtccmjljlfgbicaaGreatWorld
namespace Go.Proofs.YtccmjljlfgbicaaGreat
open Go.ChangeShapes Go.WideShapes Go.ChangeAt Go.RowKit

set_option maxRecDepth 100000 in
set_option maxHeartbeats 2000000 in
theorem wset_any {k : Blks} {s : St} (n x : Int) (w : World) (h : Holds k s w) (hx : 0 ≤ x ∧ x ≤ 18446744073709551615) :
    Calls Tryz.prog 59 #[.pointer (some ⟨k.bw, 0, none⟩), .int .i64 n, .int .u64 x] w fun e w' => e = .returned (.tuple #[]) ∧ Holds k (s.store (s.nextAt n) x) w' ∧ Only (Own k) w w' := by
  obtain ⟨⟨g0, g1, g2, g3, g4⟩, g5, g6, gl⟩ := h.wfacts
  have NW := cs_own h.ne_w
  go_enter Tryz.func59, Tryz.ntmps59
  go_wp2_with fail
  go_region_held3 (fun w' => w'.cell? ⟨k.bw, 0, none⟩ = some (.int .i64 s.c.threads) ∧ w'.cell? ⟨k.bw, 1, none⟩ = some (.int .i64 s.c.buckets) ∧ w'.cell? ⟨k.bw, 2, none⟩ = some (.int .i64 s.c.inserts) ∧ w'.cell? ⟨k.bw, 3, none⟩ = some (.int .i64 s.c.fuel) ∧ w'.cell? ⟨k.bw, 4, none⟩ = some (.int .i64 s.c.calls) ∧ w'.cell? ⟨k.bw, 5, none⟩ = some (.pointer (some ⟨k.bc, 0, none⟩)))
    (first
      | go_keep
      | (refine ⟨?_, ?_, ?_, ?_, ?_, ?_⟩ <;> (rw [hb2.cell (by simp; omega)]; go_simp))
      | (go_split_ands; refine ⟨?_, ?_, ?_, ?_, ?_, ?_⟩ <;> (rw [hO.cell (by have := hb2.size; simp at this; omega) (by assumption)]; assumption)))
    ((first | (go_at_call 103; refine (next_any s.c _ _).mono ?_; rintro e w2 ⟨rfl, hb2⟩) | (go_at_call 129; refine (store_any _ _ _ (h.cells' hb2)).mono ?_; rintro e w3 ⟨rfl, hC, hO⟩)))
  all_goals
    go_wp2
    go_end0
    exact ⟨rfl, h.then hb2 hO hC (ok_store h.ok _ hx)⟩

def St.head (s : St) (key : Int) : Int := atOr (bucketOf key s.c.buckets) s.c.buckets (1 + bucketOf key s.c.buckets)

set_option maxRecDepth 100000 in
set_option maxHeartbeats 2000000 in
theorem whead_any {k : Blks} {s : St} (key : Int) (w : World) (h : Holds k s w) :
    Calls Tryz.prog 151 #[.pointer (some ⟨k.bw, 0, none⟩), .int .u64 key] w fun e w' => e = .returned (.int .i64 (s.head key)) ∧ Below w.heap.size w w' := by
  obtain ⟨⟨g0, g1, g2, g3, g4⟩, g5, g6, gl⟩ := h.wfacts
  have HM := Lib.hid h.ok.may
  go_enter Tryz.func151, Tryz.ntmps151
  go_wp2_with fail
  go_region_held3 (fun w' => w'.cell? ⟨k.bw, 0, none⟩ = some (.int .i64 s.c.threads) ∧ w'.cell? ⟨k.bw, 1, none⟩ = some (.int .i64 s.c.buckets) ∧ w'.cell? ⟨k.bw, 2, none⟩ = some (.int .i64 s.c.inserts) ∧ w'.cell? ⟨k.bw, 3, none⟩ = some (.int .i64 s.c.fuel) ∧ w'.cell? ⟨k.bw, 4, none⟩ = some (.int .i64 s.c.calls))
    (first
      | go_keep
      | (refine ⟨?_, ?_, ?_, ?_, ?_⟩ <;> (rw [hb2.cell (by simp; omega)]; go_simp))
      | (go_split_ands; refine ⟨?_, ?_, ?_, ?_, ?_⟩ <;> (rw [hb3.cell (by have := hb2.size; simp at this; show k.bw < _; omega)]; assumption)))
    ((first | (go_at_call 164; refine (bucket_any _ _ _).mono ?_; rintro e w2 ⟨rfl, hb2⟩) | (go_at_call 71; refine (head_any s.c _ _ HM.out).mono ?_; rintro e w3 ⟨rfl, hb3⟩)))
  all_goals
    go_wp2
    go_ret
    exact ⟨rfl, ((Below.refl _ _).drew.trans hb2).trans (hb3.mono hb2.size)⟩

end Go.Proofs.YtccmjljlfgbicaaGreat
