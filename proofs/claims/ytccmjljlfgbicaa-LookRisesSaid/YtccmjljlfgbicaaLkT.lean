/- Contract of look.Sound. -/
import Derived.Test.YtccmjljlfgbicaaLkS
namespace Go.Proofs.Ytccmjljlfgbicaa
open Go.ChangeShapes Go.WideShapes Go.ChangeAt Go.RowKit

/-- Is a bucket sound? -/
def St.sound1 (s : St) (b : Int) : Bool := s.vw.sndRun b ⟨[], [], [], 0⟩ (s.chain b)
/-- Are so many buckets? -/
def St.soundTo (s : St) (n : Nat) : Bool := (List.range n).all fun b => s.sound1 (b : Int)
def St.sound (s : St) : Bool := s.soundTo s.c.buckets.toNat
theorem St.soundTo_succ (s : St) (n : Nat) : s.soundTo (n + 1) = (s.soundTo n && s.sound1 (n : Int)) := by
  unfold St.soundTo
  rw [List.range_succ, List.all_append]
  simp
theorem St.soundTo_no {s : St} {i n : Nat} (h : i < n) (hs : s.sound1 (i : Int) = false) : s.soundTo n = false := by
  unfold St.soundTo
  rw [List.all_eq_false]
  exact ⟨i, List.mem_range.2 h, by rw [hs]; decide⟩
theorem St.sound_one {s : St} (h : s.c.buckets = 1) : s.sound = s.sound1 0 := by
  unfold St.sound
  rw [h]
  show s.soundTo 1 = _
  rw [St.soundTo_succ]
  rfl

set_option maxRecDepth 100000 in
set_option maxHeartbeats 2000000 in
theorem lSound_any {k : Blks} {s : St} (w : World) (h : Holds k s w) :
    Calls Try.prog 24 #[.pointer (some ⟨k.bw, 0, none⟩)] w fun e w' => e = .returned (.bool s.sound) ∧ Below w.heap.size w w' := by
  obtain ⟨⟨g0, g1, g2, g3, g4⟩, g5, g6, gl⟩ := h.wfacts
  have hmb := may_bounds h.ok.may
  obtain ⟨n, hn⟩ : ∃ n : Nat, s.c.buckets = n := ⟨s.c.buckets.toNat, by omega⟩
  have HN := Lib.hid hn
  have H := Lib.hid h
  have HSN := Lib.hid (show s.sound = s.soundTo n by unfold St.sound; rw [hn]; rfl)
  rw [hn] at g1
  have hn9 : n ≤ 100000 := by omega
  clear hn hmb h g0 g2 g3 g4 g5 g6
  go_enter Try.func24, Try.ntmps24
  go_wp2_with fail
  go_loopg [11] n (fun gg v11 wr => ∃ i : Nat, v11 = .int .i64 i ∧ i + gg = n ∧ s.soundTo i = true ∧ Below w.heap.size w wr)
  case atStart => exact ⟨0, rfl, by omega, rfl, Below.refl _ _⟩
  case round =>
    obtain ⟨i, rfl, hi, hs, hb⟩ := hrel
    have HSI := Lib.hid hs
    clear hs
    by_cases hlt : i < n
    · cases hq : s.sound1 (i : Int) with
      | true =>
        have HQ := Lib.hid hq
        clear hq
        go_wp2_with (go_at_call 63; refine (lsound_any (i : Int) wr (H.out.below hb)).mono ?_; rintro e w1 ⟨rfl, hb1⟩; rw [show s.vw.sndRun (i : Int) ⟨[], [], [], 0⟩ (s.chain (i : Int)) = true from HQ.out])
        go_roundg (n - (i + 1))
        case measure => omega
        case rel => exact ⟨i + 1, rfl, by omega, by rw [St.soundTo_succ, HSI.out, HQ.out]; rfl, hb.trans (hb1.mono hb.size)⟩
      | false =>
        have HQ := Lib.hid hq
        clear hq
        go_wp2_with (go_at_call 63; refine (lsound_any (i : Int) wr (H.out.below hb)).mono ?_; rintro e w1 ⟨rfl, hb1⟩; rw [show s.vw.sndRun (i : Int) ⟨[], [], [], 0⟩ (s.chain (i : Int)) = false from HQ.out])
        go_ret
        rw [HSN.out, St.soundTo_no hlt HQ.out]
        exact ⟨rfl, hb.trans (hb1.mono hb.size)⟩
    · have e : i = n := by omega
      subst e
      go_wp2_with fail
      go_ret
      rw [HSN.out, HSI.out]
      exact ⟨rfl, hb⟩

set_option maxRecDepth 100000 in
theorem lSound_nil (w : World) : Calls Try.prog 24 #[.pointer none] w fun e w' => e = .returned (.bool false) ∧ Below w.heap.size w w' := by
  go_enter Try.func24, Try.ntmps24
  go_wp2_with fail
  go_ret
  exact ⟨rfl, Below.refl _ _⟩
end Go.Proofs.Ytccmjljlfgbicaa
