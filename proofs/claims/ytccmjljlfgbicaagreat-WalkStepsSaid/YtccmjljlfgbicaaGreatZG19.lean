/- Contract of corrieref10.judge, whole. -/
import Derived.Test.YtccmjljlfgbicaaGreatZRefR1
import Derived.Test.YtccmjljlfgbicaaGreatZG18
import Derived.Test.YtccmjljlfgbicaaGreatZG8
import Derived.Test.YtccmjljlfgbicaaGreatZRefF
import Derived.Deep.LoopGhost
import Derived.Deep.Cut
import Derived.Deep.RegionHeld3
namespace Go.Proofs.YtccmjljlfgbicaaGreat
open Go.ChangeShapes Go.WideShapes Go.ChangeAt Go.RowKit

theorem rjudge_any {r : RV} {s : St} (x : Walk) (v : Int) (w : World) (h : RefIn w r s) (hz : Sized s) (hn : 0 ≤ x.next ∧ x.next ≤ 18446744073709551615) (hv0 : 0 ≤ v) :
    Calls Tryz.prog 163 #[r.val s, x.val, .int .u64 v] w fun e w' => e = .returned (Walk.val (s.judged x v)) ∧ Below w.heap.size w w' := by
  unfold St.judged
  by_cases hv : 1 < v
  · rw [if_pos hv]; exact rjudge_over x v w h hz hv
  rw [if_neg hv]
  by_cases hk : s.key x.curr ≠ x.key
  · rw [if_pos hk]; exact rjudge_other x v w h hz hv (by simpa using hk) hn
  rw [if_neg hk]
  have hk' : (s.key x.curr == x.key) = true := by simpa using hk
  by_cases h2 : x.mode = 2
  · rw [if_pos h2]
    by_cases h1 : v = 1
    · rw [if_pos h1]; exact rjudge_seek1 x v w h hz hv hk' (by simpa using h2) (by simpa using h1)
    · rw [if_neg h1]; exact rjudge_seek0 x v w h hz hv hk' (by simpa using h2) (by simpa using h1)
  rw [if_neg h2]
  have h2' : (x.mode == 2) = false := by simpa using h2
  by_cases h1 : x.mode = 1
  · rw [if_pos h1]
    have h1' : (x.mode == 1) = true := by simpa using h1
    by_cases hz0 : v = 0
    · rw [if_pos hz0]
      have hv1 : (v == 1) = false := by rw [hz0]; rfl
      by_cases hs : x.seen = -1
      · rw [if_pos hs]; exact rjudge_pend6 x v w h hz hv hk' h2' h1' hv1 (by simpa using hs)
      · rw [if_neg hs]; exact rjudge_pend5 x v w h hz hv hk' h2' h1' hv1 (by simpa using hs)
    · rw [if_neg hz0]
      have hv1 : (v == 1) = true := by
        have : v = 1 := by omega
        rw [this]; rfl
      by_cases hs : x.seen = s.carried x.curr
      · rw [if_pos hs]; exact rjudge_same x v w h hz hv hk' h2' h1' hv1 (by simpa using hs)
      · rw [if_neg hs]; exact rjudge_first x v w h hz hv hk' h2' h1' hv1 (by simpa using hs) hn
  · rw [if_neg h1]; exact rjudge_pass x v w h hz hv hk' h2' (by simpa using h1) hn

end Go.Proofs.YtccmjljlfgbicaaGreat

/- WalkEnds, the plain law: a walk in a scene's world that nobody disturbs. -/
namespace Go.Proofs.YtccmjljlfgbicaaGreat
open Go.ChangeShapes Go.WideShapes Go.ChangeAt Go.RowKit

theorem head_one {s : St} (h : s.c.buckets = 1) (key : Int) : s.head key = 1 := by
  unfold St.head
  rw [h]
  have hb : bucketOf key 1 = 0 := by
    unfold bucketOf
    rw [if_pos (by decide)]
    omega
  rw [hb]; rfl

/-- So many steps are behind a walk in a world of so many nodes. -/
structure EndsAt (x : Scene) (key mode : Int) (i : Nat) (s : St) (y : Walk) : Prop where
  next : 0 ≤ y.next ∧ y.next ≤ 18446744073709551615
  at_ : (i = 0 ∧ s = x.lay ∧ y = Walk.new key mode) ∨ (0 < i ∧ Left s y (8 * x.items.length + 1 - i))

theorem ends_start (x : Scene) (key mode : Int) : EndsAt x key mode 0 x.lay (Walk.new key mode) := ⟨by unfold Walk.new; simp, .inl ⟨rfl, rfl, rfl⟩⟩
theorem ends_step {x : Scene} {key mode : Int} {i : Nat} {s : St} {y : Walk} (hx : x.fits) (hlen : x.items.length ≤ 12) (hok : s.ok) (h : EndsAt x key mode i s y) :
    (y.done = true → (s.walkStep y).1.steps = s.steps) ∧ (y.done = false → (s.walkStep y).1.steps = wrap64 (s.steps + 1)) ∧ EndsAt x key mode (i + 1) (s.walkStep y).1 (s.walkStep y).2 := by
  have hn := step_next hok h.next
  rcases h.at_ with ⟨rfl, rfl, rfl⟩ | ⟨hi, hd | ⟨rest, hw, hb⟩⟩
  · obtain ⟨h1, h2, h3, h4, h5, h6⟩ := lay_path hx hlen
    have hc : x.lay.c.buckets = 1 := by rw [h2]; rfl
    have hnn : x.lay.c.nodes = 98 := by rw [h2]; exact conf_nodes hx.fuel
    have hh := head_one hc key
    obtain ⟨g1, g2⟩ := left_begin (mode := mode) hok (by rw [hh, hnn]; decide) (by rw [hh]; exact h4) (by rw [hh]; exact h3) (by rw [hh]; exact h5) h6
    refine ⟨fun e => (by cases e), fun _ => g1, ⟨hn, .inr ⟨by omega, ?_⟩⟩⟩
    rw [nodesFrom_len] at g2
    exact g2
  · have e : s.walkStep y = (s, y) := by unfold St.walkStep; rw [if_pos hd]
    rw [e]
    exact ⟨fun _ => rfl, fun e => (by rw [hd] at e; cases e), ⟨h.next, .inr ⟨by omega, .inl hd⟩⟩⟩
  · have h1 := wcost_le s y
    obtain ⟨g1, g2⟩ := left_step (b := 8 * x.items.length + 1 - (i + 1)) hok hw (by omega)
    exact ⟨fun e => (by rw [hw.go] at e; cases e), fun _ => g1, ⟨hn, .inr ⟨by omega, g2⟩⟩⟩
theorem ends_end {x : Scene} {key mode : Int} {i : Nat} {s : St} {y : Walk} (h : EndsAt x key mode i s y) (hi : i = 12 * x.items.length + 4) : y.done = true := by
  rcases h.at_ with ⟨h0, _⟩ | ⟨_, hd | ⟨rest, hw, hb⟩⟩
  · omega
  · exact hd
  · have := wcost_le s y; omega

end Go.Proofs.YtccmjljlfgbicaaGreat

/- Contract of corrieref08.Head, where there is one bucket. -/
namespace Go.Proofs.YtccmjljlfgbicaaGreat
open Go.ChangeShapes Go.WideShapes Go.ChangeAt Go.RowKit

set_option maxRecDepth 100000 in
set_option maxHeartbeats 1000000 in
theorem rbucket_one (key : Int) (w : World) :
    Calls Tryz.prog 121 #[.int .u64 key, .int .i64 1] w fun e w' => e = .returned (.int .i64 0) ∧ w = w' := by
  go_enter Tryz.func121, Tryz.ntmps121
  go_wp2_with (go_at_call 179; refine (rmayb_yes 1 _ (by decide)).mono ?_; rintro e w1 ⟨rfl, rfl⟩)
  go_loopg [5, 6, 7] 1 (fun _ v5 v6 v7 wr => v6 = .int .i64 0 ∧ v7 = .int .i64 1 ∧ wr = w)
  case atStart => exact ⟨rfl, rfl, rfl⟩
  case round =>
    obtain ⟨rfl, rfl, rfl⟩ := hrel
    go_wp2
    go_ret
    exact ⟨rfl, rfl⟩

theorem rbucket_eq {b : Int} (hb : b = 1) (key : Int) (w : World) :
    Calls Tryz.prog 121 #[.int .u64 key, .int .i64 b] w fun e w' => e = .returned (.int .i64 0) ∧ w = w' := by
  subst hb; exact rbucket_one key w

set_option maxRecDepth 100000 in
set_option maxHeartbeats 2000000 in
theorem rwhead_one {r : RV} {s : St} (key : Int) (w : World) (hm : s.c.may = true) (hb : s.c.buckets = 1) :
    Calls Tryz.prog 161 #[r.val s, .int .u64 key] w fun e w' => e = .returned (.int .i64 (s.head key)) ∧ Below w.heap.size w w' := by
  have HM := Lib.hid hm
  have HB := Lib.hid hb
  have HH := Lib.hid (head_one hb key)
  have HR := Lib.hid (show atOr 0 s.c.buckets (1 + 0) = 1 by rw [hb]; rfl)
  have A0 := At.new w 45 (r.cells s)
  clear hm hb
  go_enter Tryz.func161, Tryz.ntmps161
  go_wp2_with fail
  go_region_held3 (fun w' => w'.cell? ⟨w.heap.size, 0, none⟩ = some (.int .i64 s.c.threads) ∧ w'.cell? ⟨w.heap.size, 1, none⟩ = some (.int .i64 s.c.buckets) ∧ w'.cell? ⟨w.heap.size, 2, none⟩ = some (.int .i64 s.c.inserts) ∧ w'.cell? ⟨w.heap.size, 3, none⟩ = some (.int .i64 s.c.fuel) ∧ w'.cell? ⟨w.heap.size, 4, none⟩ = some (.int .i64 s.c.calls))
    (first | go_keep | exact ⟨b0, b1, b2, b3, b4⟩)
    ((first
      | (go_at_call 121; refine (rbucket_eq HB.out key _).mono ?_; rintro e w2 ⟨rfl, rfl⟩)
      | (go_at_call 74; refine (rhead_any s.c _ _ HM.out).mono ?_; rintro e w3 ⟨rfl, hb3⟩; obtain ⟨⟨b0, b1, b2, b3, b4, -, -, -, -, -, -, -, -, -, -, -, -⟩, bf, bl⟩ := at17 (A0.drew.below' hb3))))
  go_wp2
  go_ret
  exact ⟨ret_u (by rw [HH.out]; exact HR.out), ((Below.refl _ w).alloc (Nat.le_refl _) _).drew.trans (hb3.mono (by simp))⟩

end Go.Proofs.YtccmjljlfgbicaaGreat

/- Contracts of the document's answer: a step of a world: Next. (Printed by refgen.py.) -/
namespace Go.Proofs.YtccmjljlfgbicaaGreat
open Go.ChangeShapes Go.WideShapes Go.ChangeAt Go.RowKit

set_option maxRecDepth 100000 in
set_option maxHeartbeats 4000000 in
theorem rwnext_any {r : RV} {s : St} (n : Int) (w : World) (h : RefIn w r s) (hm : s.c.may = true) :
    Calls Tryz.prog 73 #[r.val s, .int .i64 n] w fun e w' => e = .returned (.tuple #[r.val (s.load (s.nextAt n)), .int .u64 (s.peek (s.nextAt n))]) ∧ Below w.heap.size w w' := by
  have H := Lib.hid h
  have HM := Lib.hid hm
  clear h hm
  go_enter Tryz.func73, Tryz.ntmps73
  go_wp2_with fail
  have A0 := (At.new w 45 (r.cells s)).alloc (.cells zero17 45)
  have A1 := At.new1 w (.cells (r.cells s) 45) 45 zero17
  go_region_held3 (fun w' => w'.cell? ⟨w.heap.size, 0, none⟩ = some (.int .i64 s.c.threads) ∧ w'.cell? ⟨w.heap.size, 1, none⟩ = some (.int .i64 s.c.buckets) ∧ w'.cell? ⟨w.heap.size, 2, none⟩ = some (.int .i64 s.c.inserts) ∧ w'.cell? ⟨w.heap.size, 3, none⟩ = some (.int .i64 s.c.fuel) ∧ w'.cell? ⟨w.heap.size, 4, none⟩ = some (.int .i64 s.c.calls) ∧ w'.cell? ⟨w.heap.size, 5, none⟩ = some (.slice r.w.1 s.words.length r.w.2) ∧ w'.cell? ⟨w.heap.size, 6, none⟩ = some (.int .i64 s.steps) ∧ w'.cell? ⟨w.heap.size, 7, none⟩ = some (.int .i64 s.c.threads) ∧ w'.cell? ⟨w.heap.size, 8, none⟩ = some (.int .i64 s.c.buckets) ∧ w'.cell? ⟨w.heap.size, 9, none⟩ = some (.int .i64 s.c.inserts) ∧ w'.cell? ⟨w.heap.size, 10, none⟩ = some (.int .i64 s.c.fuel) ∧ w'.cell? ⟨w.heap.size, 11, none⟩ = some (.int .i64 s.c.calls) ∧ w'.cell? ⟨w.heap.size, 12, none⟩ = some (.slice r.cs.1 s.thr.length r.cs.2) ∧ w'.cell? ⟨w.heap.size, 13, none⟩ = some (.slice r.is.1 s.thr.length r.is.2) ∧ w'.cell? ⟨w.heap.size, 14, none⟩ = some (.slice r.ms.1 s.thr.length r.ms.2) ∧ w'.cell? ⟨w.heap.size, 15, none⟩ = some (.slice r.os.1 s.ops.length r.os.2) ∧ w'.cell? ⟨w.heap.size, 16, none⟩ = some (.slice r.ns.1 s.nodes.length r.ns.2))
    (first | go_keep | exact (at17 K3).1 | exact (at17 K2).1)
    ((first | (go_at_call 105; refine (rnext_any s.c _ _ HM.out).mono ?_; rintro e w2 ⟨rfl, hb2⟩; have K2 := A0.drew.below' hb2) | (go_at_call 147; refine (rwload_any (s.nextAt n) _ (H.out.below ((below_twice w _ _).drew.trans (hb2.mono (by simp; omega))))).mono ?_; rintro e w3 ⟨rfl, hb3⟩; have K3 := K2.below' hb3; have A3 := (A1.drew.below' hb2).below' hb3; obtain ⟨⟨z0, z1, z2, z3, z4, z5, z6, z7, z8, z9, z10, z11, z12, z13, z14, z15, z16⟩, zf, zl⟩ := at17 A3)))
  have hs2 := hb2.size
  simp at hs2
  have B3 : Below w.heap.size w w3 := ((below_twice w _ _).drew.trans (hb2.mono (by simp; omega))).trans (hb3.mono (by omega))
  clear z0 z1 z2 z3 z4 z5 z6 z7 z8 z9 z10 z11 z12 z13 z14 z15 z16 zf zl
  go_wp2_with fail
  exact bodyPost_ret (v := .tuple #[r.val (s.load (s.nextAt n)), .int .u64 (s.peek (s.nextAt n))]) (res_cell_tmp (fn := Tryz.f73) Tryz.results73 _ _ (w.heap.size + 1) _ _ rfl (put17 A3 _ _ _ _ _ _ _ _ _ _ _ _ _ _ _ _ _).1 Tryz.underlying45 rfl (by kernel_rfl)) rfl ⟨rfl, B3.trans ((put17 A3 _ _ _ _ _ _ _ _ _ _ _ _ _ _ _ _ _).2.below (by have := B3.size; omega) fun i hi hn => by omega)⟩

end Go.Proofs.YtccmjljlfgbicaaGreat

/- Contracts of the document's answer: a step of a world: Word. (Printed by refgen.py.) -/
namespace Go.Proofs.YtccmjljlfgbicaaGreat
open Go.ChangeShapes Go.WideShapes Go.ChangeAt Go.RowKit

set_option maxRecDepth 100000 in
set_option maxHeartbeats 4000000 in
theorem rwword_any {r : RV} {s : St} (n : Int) (w : World) (h : RefIn w r s) (hm : s.c.may = true) :
    Calls Tryz.prog 77 #[r.val s, .int .i64 n] w fun e w' => e = .returned (.tuple #[r.val (s.load (s.wordAt n)), .int .u64 (s.peek (s.wordAt n))]) ∧ Below w.heap.size w w' := by
  have H := Lib.hid h
  have HM := Lib.hid hm
  clear h hm
  go_enter Tryz.func77, Tryz.ntmps77
  go_wp2_with fail
  have A0 := (At.new w 45 (r.cells s)).alloc (.cells zero17 45)
  have A1 := At.new1 w (.cells (r.cells s) 45) 45 zero17
  go_region_held3 (fun w' => w'.cell? ⟨w.heap.size, 0, none⟩ = some (.int .i64 s.c.threads) ∧ w'.cell? ⟨w.heap.size, 1, none⟩ = some (.int .i64 s.c.buckets) ∧ w'.cell? ⟨w.heap.size, 2, none⟩ = some (.int .i64 s.c.inserts) ∧ w'.cell? ⟨w.heap.size, 3, none⟩ = some (.int .i64 s.c.fuel) ∧ w'.cell? ⟨w.heap.size, 4, none⟩ = some (.int .i64 s.c.calls) ∧ w'.cell? ⟨w.heap.size, 5, none⟩ = some (.slice r.w.1 s.words.length r.w.2) ∧ w'.cell? ⟨w.heap.size, 6, none⟩ = some (.int .i64 s.steps) ∧ w'.cell? ⟨w.heap.size, 7, none⟩ = some (.int .i64 s.c.threads) ∧ w'.cell? ⟨w.heap.size, 8, none⟩ = some (.int .i64 s.c.buckets) ∧ w'.cell? ⟨w.heap.size, 9, none⟩ = some (.int .i64 s.c.inserts) ∧ w'.cell? ⟨w.heap.size, 10, none⟩ = some (.int .i64 s.c.fuel) ∧ w'.cell? ⟨w.heap.size, 11, none⟩ = some (.int .i64 s.c.calls) ∧ w'.cell? ⟨w.heap.size, 12, none⟩ = some (.slice r.cs.1 s.thr.length r.cs.2) ∧ w'.cell? ⟨w.heap.size, 13, none⟩ = some (.slice r.is.1 s.thr.length r.is.2) ∧ w'.cell? ⟨w.heap.size, 14, none⟩ = some (.slice r.ms.1 s.thr.length r.ms.2) ∧ w'.cell? ⟨w.heap.size, 15, none⟩ = some (.slice r.os.1 s.ops.length r.os.2) ∧ w'.cell? ⟨w.heap.size, 16, none⟩ = some (.slice r.ns.1 s.nodes.length r.ns.2))
    (first | go_keep | exact (at17 K3).1 | exact (at17 K2).1)
    ((first | (go_at_call 46; refine (rword_any s.c _ _ HM.out).mono ?_; rintro e w2 ⟨rfl, hb2⟩; have K2 := A0.drew.below' hb2) | (go_at_call 147; refine (rwload_any (s.wordAt n) _ (H.out.below ((below_twice w _ _).drew.trans (hb2.mono (by simp; omega))))).mono ?_; rintro e w3 ⟨rfl, hb3⟩; have K3 := K2.below' hb3; have A3 := (A1.drew.below' hb2).below' hb3; obtain ⟨⟨z0, z1, z2, z3, z4, z5, z6, z7, z8, z9, z10, z11, z12, z13, z14, z15, z16⟩, zf, zl⟩ := at17 A3)))
  have hs2 := hb2.size
  simp at hs2
  have B3 : Below w.heap.size w w3 := ((below_twice w _ _).drew.trans (hb2.mono (by simp; omega))).trans (hb3.mono (by omega))
  clear z0 z1 z2 z3 z4 z5 z6 z7 z8 z9 z10 z11 z12 z13 z14 z15 z16 zf zl
  go_wp2_with fail
  exact bodyPost_ret (v := .tuple #[r.val (s.load (s.wordAt n)), .int .u64 (s.peek (s.wordAt n))]) (res_cell_tmp (fn := Tryz.f77) Tryz.results77 _ _ (w.heap.size + 1) _ _ rfl (put17 A3 _ _ _ _ _ _ _ _ _ _ _ _ _ _ _ _ _).1 Tryz.underlying45 rfl (by kernel_rfl)) rfl ⟨rfl, B3.trans ((put17 A3 _ _ _ _ _ _ _ _ _ _ _ _ _ _ _ _ _).2.below (by have := B3.size; omega) fun i hi hn => by omega)⟩

end Go.Proofs.YtccmjljlfgbicaaGreat

