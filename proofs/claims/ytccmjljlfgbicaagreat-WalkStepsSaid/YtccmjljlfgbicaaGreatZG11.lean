/- NOT WHOLE YET: contract of corrieref07.New: three rows are made, in whatever order. -/
import Derived.Test.YtccmjljlfgbicaaGreatZG10
import Derived.Deep.RegionHeld3
import Derived.Test.YtccmjljlfgbicaaGreatZG9
namespace Go.Proofs.YtccmjljlfgbicaaGreat
open Go.ChangeShapes Go.WideShapes Go.ChangeAt Go.RowKit

abbrev zero10 : Array Value := #[.int .i64 0, .int .i64 0, .int .i64 0, .int .i64 0, .int .i64 0, .slice none 0 0, .slice none 0 0, .slice none 0 0, .slice none 0 0, .slice none 0 0]

theorem size_setCell' (w : World) (a : Addr) (v : Value) : (w.setCell a v).heap.size = w.heap.size := by simp [World.setCell]
theorem made_ints (n : Nat) : madeCells #[.int .i64 0] n = (intsV (List.replicate n 0)).toArray := by
  apply Array.ext (by simp [madeCells, intsV])
  intro i h1 h2
  simp [madeCells, intsV, Nat.mod_one]
theorem three_new (X : World) (m : Nat) (hm : X.heap.size = m) (cs : Array Value) : At (((X.alloc (.cells cs 3)).alloc (.cells cs 3)).alloc (.cells cs 3)).drew m 3 cs ∧ At (((X.alloc (.cells cs 3)).alloc (.cells cs 3)).alloc (.cells cs 3)).drew (m + 1) 3 cs ∧ At (((X.alloc (.cells cs 3)).alloc (.cells cs 3)).alloc (.cells cs 3)).drew (m + 1 + 1) 3 cs := by
  subst hm
  refine ⟨(((At.new X _ _).alloc _).alloc _).drew, ((At.new1 X _ _ _).alloc _).drew, ?_⟩
  have h := At.new ((X.alloc (.cells cs 3)).alloc (.cells cs 3)) 3 cs
  rw [World.size_alloc, World.size_alloc] at h
  exact h.drew
theorem read_made {W : World} {a n : Nat} {l : List Int} (h : At W a 3 (madeCells #[.int .i64 0] n)) (hl : l = List.replicate n 0) : ReadAt W (some ⟨a, 0, none⟩) (intsV l) := by
  subst hl
  intro j u hu
  refine ⟨a, 0, rfl, ?_⟩
  rw [Nat.zero_add, h.cell, made_ints, List.getElem?_toArray]; exact hu
theorem book_new_in {c : Conf} {W : World} {a b d : Nat} {n : Nat} (ha : At W a 3 (madeCells #[.int .i64 0] c.threads.toNat)) (hb : At W b 3 (madeCells #[.int .i64 0] c.threads.toNat)) (hd : At W d 3 (madeCells #[.int .i64 0] c.threads.toNat)) :
    BookIn W ⟨(none, 0), (some ⟨a, 0, none⟩, n), (some ⟨b, 0, none⟩, n), (some ⟨d, 0, none⟩, n), (none, 0), (none, 0)⟩ (St.new c) :=
  ⟨read_made ha (by simp [St.new]), read_made hb (by simp [St.new]), read_made hd (by simp [St.new]), fun j u hu => by simp [St.new, opRows] at hu, fun j u hu => by simp [St.new, nodeRows] at hu, fun _ => rfl, fun _ => rfl⟩
theorem book_new_val (c : Conf) (p1 p2 p3 : Option Addr) (n : Nat) : RV.book ⟨(none, 0), (p1, n), (p2, n), (p3, n), (none, 0), (none, 0)⟩ (St.new c) = .agg #[.int .i64 c.threads, .int .i64 c.buckets, .int .i64 c.inserts, .int .i64 c.fuel, .int .i64 c.calls, .slice p1 c.threads.toNat n, .slice p2 c.threads.toNat n, .slice p3 c.threads.toNat n, .slice none 0 0, .slice none 0 0] := by
  simp [RV.book, St.new]
theorem at5 {w : World} {g : Nat} {t : TypeId} {a0 a1 a2 a3 a4 : Value} (h : At w g t #[a0, a1, a2, a3, a4]) :
    w.cell? ⟨g, 0, none⟩ = some a0 ∧ w.cell? ⟨g, 1, none⟩ = some a1 ∧ w.cell? ⟨g, 2, none⟩ = some a2 ∧ w.cell? ⟨g, 3, none⟩ = some a3 ∧ w.cell? ⟨g, 4, none⟩ = some a4 := ⟨h.cell 0, h.cell 1, h.cell 2, h.cell 3, h.cell 4⟩
structure BookFr (n : Nat) (r r' : RV) : Prop where
  cs : Fr n r.cs.1 r'.cs.1
  is : Fr n r.is.1 r'.is.1
  ms : Fr n r.ms.1 r'.ms.1
  os : Fr n r.os.1 r'.os.1
  ns : Fr n r.ns.1 r'.ns.1
theorem BookFr.refl (n : Nat) (r : RV) : BookFr n r r := ⟨.inl rfl, .inl rfl, .inl rfl, .inl rfl, .inl rfl⟩
theorem fr3 {n a b d k1 k2 k3 : Nat} (ha : n ≤ a) (hb : n ≤ b) (hd : n ≤ d) : BookFr n ⟨(none, 0), (none, 0), (none, 0), (none, 0), (none, 0), (none, 0)⟩ ⟨(none, 0), (some ⟨a, 0, none⟩, k1), (some ⟨b, 0, none⟩, k2), (some ⟨d, 0, none⟩, k3), (none, 0), (none, 0)⟩ :=
  ⟨.inr ⟨a, rfl, ha⟩, .inr ⟨b, rfl, hb⟩, .inr ⟨d, rfl, hd⟩, .inl rfl, .inl rfl⟩
set_option maxRecDepth 100000 in
set_option maxHeartbeats 4000000 in
theorem rbnew_any (c : Conf) (w : World) (hm : c.may = true) :
    Calls Tryz.prog 130 #[c.val] w fun e w' => ∃ r : RV, e = .returned (.tuple #[r.book (St.new c), .int .i64 0]) ∧ BookIn w' r (St.new c) ∧ Below w.heap.size w w' ∧ BookFr w.heap.size ⟨(none, 0), (none, 0), (none, 0), (none, 0), (none, 0), (none, 0)⟩ r := by
  obtain ⟨i, z, hi, hz, hc, hsz, hby⟩ := info_of i64info
  have hmb := may_bounds hm
  have hrun := fun W => run_make (P := Tryz.prog) W 39 3 i z Tryz.underlying39 hi hz .i64 .i64 c.threads c.threads (by omega) (Int.le_refl _) (by rw [hby]; omega) (by omega)
  simp only [hc, hsz, Nat.mul_one] at hrun
  clear hc hsz hby hz hi
  have HM := Lib.hid hm
  clear hm
  go_enter Tryz.func130, Tryz.ntmps130
  go_wp2_with (go_at_call 173; refine (rmay_yes c _ HM.out).mono ?_; rintro e w1 ⟨rfl, hb1⟩)
  have K0 := ((At.new w 35 c.cells).alloc (.cells zero10 43)).below' hb1
  have K1 := (At.new1 w (.cells c.cells 35) 43 zero10).below' hb1
  have g0 : w1.cell? ⟨w.heap.size, 0, none⟩ = some (.int .i64 c.threads) := K0.cell 0
  have g1 : w1.cell? ⟨w.heap.size, 1, none⟩ = some (.int .i64 c.buckets) := K0.cell 1
  have g2 : w1.cell? ⟨w.heap.size, 2, none⟩ = some (.int .i64 c.inserts) := K0.cell 2
  have g3 : w1.cell? ⟨w.heap.size, 3, none⟩ = some (.int .i64 c.fuel) := K0.cell 3
  have g4 : w1.cell? ⟨w.heap.size, 4, none⟩ = some (.int .i64 c.calls) := K0.cell 4
  obtain ⟨⟨z0, z1, z2, z3, z4, z5, z6, z7, z8, z9⟩, zf, zl⟩ := at10 K1
  have l0 := K0.lt
  have hne : w.heap.size ≠ w.heap.size + 1 := by omega
  have B1 : Below w.heap.size w w1 := (below_twice w _ _).trans (hb1.mono (by simp; omega))
  clear hb1
  go_region_held3 (fun w' => w'.cell? ⟨w.heap.size, 0, none⟩ = some (.int .i64 c.threads) ∧ w'.cell? ⟨w.heap.size, 1, none⟩ = some (.int .i64 c.buckets) ∧ w'.cell? ⟨w.heap.size, 2, none⟩ = some (.int .i64 c.inserts) ∧ w'.cell? ⟨w.heap.size, 3, none⟩ = some (.int .i64 c.fuel) ∧ w'.cell? ⟨w.heap.size, 4, none⟩ = some (.int .i64 c.calls))
    (first | (refine at5 (t := 35) ?_; repeat first | with_reducible exact K0 | with_reducible refine At.drew ?_ | with_reducible refine At.alloc ?_ _ | with_reducible refine At.far ?_ hne _) | go_keep) (fail)
  all_goals
    have hX : ∀ a5 a6 a7 : Value, ((((((((((w1.setCell ⟨w.heap.size + 1, 0, none⟩ (.int .i64 c.threads)).setCell ⟨w.heap.size + 1, 1, none⟩ (.int .i64 c.buckets)).setCell ⟨w.heap.size + 1, 2, none⟩ (.int .i64 c.inserts)).setCell ⟨w.heap.size + 1, 3, none⟩ (.int .i64 c.fuel)).setCell ⟨w.heap.size + 1, 4, none⟩ (.int .i64 c.calls)).setCell ⟨w.heap.size + 1, 5, none⟩ a5).setCell ⟨w.heap.size + 1, 6, none⟩ a6).setCell ⟨w.heap.size + 1, 7, none⟩ a7).setCell ⟨w.heap.size + 1, 8, none⟩ (.slice none 0 0)).setCell ⟨w.heap.size + 1, 9, none⟩ (.slice none 0 0)).heap.size = w1.heap.size := fun _ _ _ => by simp only [size_setCell']
    have hP := fun a5 a6 a7 : Value => put10 K1 (.int .i64 c.threads) (.int .i64 c.buckets) (.int .i64 c.inserts) (.int .i64 c.fuel) (.int .i64 c.calls) a5 a6 a7 (.slice none 0 0) (.slice none 0 0)
    have hF := fun a5 a6 a7 : Value => three_new _ w1.heap.size (hX a5 a6 a7) (madeCells #[.int .i64 0] c.threads.toNat)
    clear g0 g1 g2 g3 g4 z0 z1 z2 z3 z4 z5 z6 z7 z8 z9 zf hrun
    rename_i Qq Kk hK hHeld
    clear hHeld
    refine hK _ _ (wp_ret ?_)
  · exact bodyPost_ret (v := .tuple #[.agg #[.int .i64 c.threads, .int .i64 c.buckets, .int .i64 c.inserts, .int .i64 c.fuel, .int .i64 c.calls, .slice (some ⟨w1.heap.size, 0, none⟩) c.threads.toNat c.threads.toNat, .slice (some ⟨w1.heap.size + 1, 0, none⟩) c.threads.toNat c.threads.toNat, .slice (some ⟨w1.heap.size + 1 + 1, 0, none⟩) c.threads.toNat c.threads.toNat, .slice none 0 0, .slice none 0 0], .int .i64 0]) (res_cell_tmp (fn := Tryz.f130) Tryz.results130 _ _ (w.heap.size + 1) _ _ rfl ((((hP (.slice (some ⟨w1.heap.size, 0, none⟩) c.threads.toNat c.threads.toNat) (.slice (some ⟨w1.heap.size + 1, 0, none⟩) c.threads.toNat c.threads.toNat) (.slice (some ⟨w1.heap.size + 1 + 1, 0, none⟩) c.threads.toNat c.threads.toNat)).1.alloc _).alloc _).alloc _).drew Tryz.underlying43 rfl (by kernel_rfl)) rfl ⟨⟨(none, 0), (some ⟨w1.heap.size, 0, none⟩, c.threads.toNat), (some ⟨w1.heap.size + 1, 0, none⟩, c.threads.toNat), (some ⟨w1.heap.size + 1 + 1, 0, none⟩, c.threads.toNat), (none, 0), (none, 0)⟩, by rw [book_new_val], book_new_in ((hF (.slice (some ⟨w1.heap.size, 0, none⟩) c.threads.toNat c.threads.toNat) (.slice (some ⟨w1.heap.size + 1, 0, none⟩) c.threads.toNat c.threads.toNat) (.slice (some ⟨w1.heap.size + 1 + 1, 0, none⟩) c.threads.toNat c.threads.toNat)).1) ((hF (.slice (some ⟨w1.heap.size, 0, none⟩) c.threads.toNat c.threads.toNat) (.slice (some ⟨w1.heap.size + 1, 0, none⟩) c.threads.toNat c.threads.toNat) (.slice (some ⟨w1.heap.size + 1 + 1, 0, none⟩) c.threads.toNat c.threads.toNat)).2.1) ((hF (.slice (some ⟨w1.heap.size, 0, none⟩) c.threads.toNat c.threads.toNat) (.slice (some ⟨w1.heap.size + 1, 0, none⟩) c.threads.toNat c.threads.toNat) (.slice (some ⟨w1.heap.size + 1 + 1, 0, none⟩) c.threads.toNat c.threads.toNat)).2.2), ((((B1.trans ((hP (.slice (some ⟨w1.heap.size, 0, none⟩) c.threads.toNat c.threads.toNat) (.slice (some ⟨w1.heap.size + 1, 0, none⟩) c.threads.toNat c.threads.toNat) (.slice (some ⟨w1.heap.size + 1 + 1, 0, none⟩) c.threads.toNat c.threads.toNat)).2.below B1.size fun i hi e => by omega)).alloc (by rw [hX]; exact B1.size) _).alloc (by simp only [World.size_alloc, hX]; exact Nat.le_succ_of_le B1.size) _).alloc (by simp only [World.size_alloc, hX]; exact Nat.le_succ_of_le (Nat.le_succ_of_le B1.size)) _).drew, fr3 (by omega) (by omega) (by omega)⟩
  · exact bodyPost_ret (v := .tuple #[.agg #[.int .i64 c.threads, .int .i64 c.buckets, .int .i64 c.inserts, .int .i64 c.fuel, .int .i64 c.calls, .slice (some ⟨w1.heap.size, 0, none⟩) c.threads.toNat c.threads.toNat, .slice (some ⟨w1.heap.size + 1 + 1, 0, none⟩) c.threads.toNat c.threads.toNat, .slice (some ⟨w1.heap.size + 1, 0, none⟩) c.threads.toNat c.threads.toNat, .slice none 0 0, .slice none 0 0], .int .i64 0]) (res_cell_tmp (fn := Tryz.f130) Tryz.results130 _ _ (w.heap.size + 1) _ _ rfl ((((hP (.slice (some ⟨w1.heap.size, 0, none⟩) c.threads.toNat c.threads.toNat) (.slice (some ⟨w1.heap.size + 1 + 1, 0, none⟩) c.threads.toNat c.threads.toNat) (.slice (some ⟨w1.heap.size + 1, 0, none⟩) c.threads.toNat c.threads.toNat)).1.alloc _).alloc _).alloc _).drew Tryz.underlying43 rfl (by kernel_rfl)) rfl ⟨⟨(none, 0), (some ⟨w1.heap.size, 0, none⟩, c.threads.toNat), (some ⟨w1.heap.size + 1 + 1, 0, none⟩, c.threads.toNat), (some ⟨w1.heap.size + 1, 0, none⟩, c.threads.toNat), (none, 0), (none, 0)⟩, by rw [book_new_val], book_new_in ((hF (.slice (some ⟨w1.heap.size, 0, none⟩) c.threads.toNat c.threads.toNat) (.slice (some ⟨w1.heap.size + 1 + 1, 0, none⟩) c.threads.toNat c.threads.toNat) (.slice (some ⟨w1.heap.size + 1, 0, none⟩) c.threads.toNat c.threads.toNat)).1) ((hF (.slice (some ⟨w1.heap.size, 0, none⟩) c.threads.toNat c.threads.toNat) (.slice (some ⟨w1.heap.size + 1 + 1, 0, none⟩) c.threads.toNat c.threads.toNat) (.slice (some ⟨w1.heap.size + 1, 0, none⟩) c.threads.toNat c.threads.toNat)).2.2) ((hF (.slice (some ⟨w1.heap.size, 0, none⟩) c.threads.toNat c.threads.toNat) (.slice (some ⟨w1.heap.size + 1 + 1, 0, none⟩) c.threads.toNat c.threads.toNat) (.slice (some ⟨w1.heap.size + 1, 0, none⟩) c.threads.toNat c.threads.toNat)).2.1), ((((B1.trans ((hP (.slice (some ⟨w1.heap.size, 0, none⟩) c.threads.toNat c.threads.toNat) (.slice (some ⟨w1.heap.size + 1 + 1, 0, none⟩) c.threads.toNat c.threads.toNat) (.slice (some ⟨w1.heap.size + 1, 0, none⟩) c.threads.toNat c.threads.toNat)).2.below B1.size fun i hi e => by omega)).alloc (by rw [hX]; exact B1.size) _).alloc (by simp only [World.size_alloc, hX]; exact Nat.le_succ_of_le B1.size) _).alloc (by simp only [World.size_alloc, hX]; exact Nat.le_succ_of_le (Nat.le_succ_of_le B1.size)) _).drew, fr3 (by omega) (by omega) (by omega)⟩
  · exact bodyPost_ret (v := .tuple #[.agg #[.int .i64 c.threads, .int .i64 c.buckets, .int .i64 c.inserts, .int .i64 c.fuel, .int .i64 c.calls, .slice (some ⟨w1.heap.size + 1, 0, none⟩) c.threads.toNat c.threads.toNat, .slice (some ⟨w1.heap.size, 0, none⟩) c.threads.toNat c.threads.toNat, .slice (some ⟨w1.heap.size + 1 + 1, 0, none⟩) c.threads.toNat c.threads.toNat, .slice none 0 0, .slice none 0 0], .int .i64 0]) (res_cell_tmp (fn := Tryz.f130) Tryz.results130 _ _ (w.heap.size + 1) _ _ rfl ((((hP (.slice (some ⟨w1.heap.size + 1, 0, none⟩) c.threads.toNat c.threads.toNat) (.slice (some ⟨w1.heap.size, 0, none⟩) c.threads.toNat c.threads.toNat) (.slice (some ⟨w1.heap.size + 1 + 1, 0, none⟩) c.threads.toNat c.threads.toNat)).1.alloc _).alloc _).alloc _).drew Tryz.underlying43 rfl (by kernel_rfl)) rfl ⟨⟨(none, 0), (some ⟨w1.heap.size + 1, 0, none⟩, c.threads.toNat), (some ⟨w1.heap.size, 0, none⟩, c.threads.toNat), (some ⟨w1.heap.size + 1 + 1, 0, none⟩, c.threads.toNat), (none, 0), (none, 0)⟩, by rw [book_new_val], book_new_in ((hF (.slice (some ⟨w1.heap.size + 1, 0, none⟩) c.threads.toNat c.threads.toNat) (.slice (some ⟨w1.heap.size, 0, none⟩) c.threads.toNat c.threads.toNat) (.slice (some ⟨w1.heap.size + 1 + 1, 0, none⟩) c.threads.toNat c.threads.toNat)).2.1) ((hF (.slice (some ⟨w1.heap.size + 1, 0, none⟩) c.threads.toNat c.threads.toNat) (.slice (some ⟨w1.heap.size, 0, none⟩) c.threads.toNat c.threads.toNat) (.slice (some ⟨w1.heap.size + 1 + 1, 0, none⟩) c.threads.toNat c.threads.toNat)).1) ((hF (.slice (some ⟨w1.heap.size + 1, 0, none⟩) c.threads.toNat c.threads.toNat) (.slice (some ⟨w1.heap.size, 0, none⟩) c.threads.toNat c.threads.toNat) (.slice (some ⟨w1.heap.size + 1 + 1, 0, none⟩) c.threads.toNat c.threads.toNat)).2.2), ((((B1.trans ((hP (.slice (some ⟨w1.heap.size + 1, 0, none⟩) c.threads.toNat c.threads.toNat) (.slice (some ⟨w1.heap.size, 0, none⟩) c.threads.toNat c.threads.toNat) (.slice (some ⟨w1.heap.size + 1 + 1, 0, none⟩) c.threads.toNat c.threads.toNat)).2.below B1.size fun i hi e => by omega)).alloc (by rw [hX]; exact B1.size) _).alloc (by simp only [World.size_alloc, hX]; exact Nat.le_succ_of_le B1.size) _).alloc (by simp only [World.size_alloc, hX]; exact Nat.le_succ_of_le (Nat.le_succ_of_le B1.size)) _).drew, fr3 (by omega) (by omega) (by omega)⟩
  · exact bodyPost_ret (v := .tuple #[.agg #[.int .i64 c.threads, .int .i64 c.buckets, .int .i64 c.inserts, .int .i64 c.fuel, .int .i64 c.calls, .slice (some ⟨w1.heap.size + 1 + 1, 0, none⟩) c.threads.toNat c.threads.toNat, .slice (some ⟨w1.heap.size, 0, none⟩) c.threads.toNat c.threads.toNat, .slice (some ⟨w1.heap.size + 1, 0, none⟩) c.threads.toNat c.threads.toNat, .slice none 0 0, .slice none 0 0], .int .i64 0]) (res_cell_tmp (fn := Tryz.f130) Tryz.results130 _ _ (w.heap.size + 1) _ _ rfl ((((hP (.slice (some ⟨w1.heap.size + 1 + 1, 0, none⟩) c.threads.toNat c.threads.toNat) (.slice (some ⟨w1.heap.size, 0, none⟩) c.threads.toNat c.threads.toNat) (.slice (some ⟨w1.heap.size + 1, 0, none⟩) c.threads.toNat c.threads.toNat)).1.alloc _).alloc _).alloc _).drew Tryz.underlying43 rfl (by kernel_rfl)) rfl ⟨⟨(none, 0), (some ⟨w1.heap.size + 1 + 1, 0, none⟩, c.threads.toNat), (some ⟨w1.heap.size, 0, none⟩, c.threads.toNat), (some ⟨w1.heap.size + 1, 0, none⟩, c.threads.toNat), (none, 0), (none, 0)⟩, by rw [book_new_val], book_new_in ((hF (.slice (some ⟨w1.heap.size + 1 + 1, 0, none⟩) c.threads.toNat c.threads.toNat) (.slice (some ⟨w1.heap.size, 0, none⟩) c.threads.toNat c.threads.toNat) (.slice (some ⟨w1.heap.size + 1, 0, none⟩) c.threads.toNat c.threads.toNat)).2.2) ((hF (.slice (some ⟨w1.heap.size + 1 + 1, 0, none⟩) c.threads.toNat c.threads.toNat) (.slice (some ⟨w1.heap.size, 0, none⟩) c.threads.toNat c.threads.toNat) (.slice (some ⟨w1.heap.size + 1, 0, none⟩) c.threads.toNat c.threads.toNat)).1) ((hF (.slice (some ⟨w1.heap.size + 1 + 1, 0, none⟩) c.threads.toNat c.threads.toNat) (.slice (some ⟨w1.heap.size, 0, none⟩) c.threads.toNat c.threads.toNat) (.slice (some ⟨w1.heap.size + 1, 0, none⟩) c.threads.toNat c.threads.toNat)).2.1), ((((B1.trans ((hP (.slice (some ⟨w1.heap.size + 1 + 1, 0, none⟩) c.threads.toNat c.threads.toNat) (.slice (some ⟨w1.heap.size, 0, none⟩) c.threads.toNat c.threads.toNat) (.slice (some ⟨w1.heap.size + 1, 0, none⟩) c.threads.toNat c.threads.toNat)).2.below B1.size fun i hi e => by omega)).alloc (by rw [hX]; exact B1.size) _).alloc (by simp only [World.size_alloc, hX]; exact Nat.le_succ_of_le B1.size) _).alloc (by simp only [World.size_alloc, hX]; exact Nat.le_succ_of_le (Nat.le_succ_of_le B1.size)) _).drew, fr3 (by omega) (by omega) (by omega)⟩
  · exact bodyPost_ret (v := .tuple #[.agg #[.int .i64 c.threads, .int .i64 c.buckets, .int .i64 c.inserts, .int .i64 c.fuel, .int .i64 c.calls, .slice (some ⟨w1.heap.size + 1, 0, none⟩) c.threads.toNat c.threads.toNat, .slice (some ⟨w1.heap.size + 1 + 1, 0, none⟩) c.threads.toNat c.threads.toNat, .slice (some ⟨w1.heap.size, 0, none⟩) c.threads.toNat c.threads.toNat, .slice none 0 0, .slice none 0 0], .int .i64 0]) (res_cell_tmp (fn := Tryz.f130) Tryz.results130 _ _ (w.heap.size + 1) _ _ rfl ((((hP (.slice (some ⟨w1.heap.size + 1, 0, none⟩) c.threads.toNat c.threads.toNat) (.slice (some ⟨w1.heap.size + 1 + 1, 0, none⟩) c.threads.toNat c.threads.toNat) (.slice (some ⟨w1.heap.size, 0, none⟩) c.threads.toNat c.threads.toNat)).1.alloc _).alloc _).alloc _).drew Tryz.underlying43 rfl (by kernel_rfl)) rfl ⟨⟨(none, 0), (some ⟨w1.heap.size + 1, 0, none⟩, c.threads.toNat), (some ⟨w1.heap.size + 1 + 1, 0, none⟩, c.threads.toNat), (some ⟨w1.heap.size, 0, none⟩, c.threads.toNat), (none, 0), (none, 0)⟩, by rw [book_new_val], book_new_in ((hF (.slice (some ⟨w1.heap.size + 1, 0, none⟩) c.threads.toNat c.threads.toNat) (.slice (some ⟨w1.heap.size + 1 + 1, 0, none⟩) c.threads.toNat c.threads.toNat) (.slice (some ⟨w1.heap.size, 0, none⟩) c.threads.toNat c.threads.toNat)).2.1) ((hF (.slice (some ⟨w1.heap.size + 1, 0, none⟩) c.threads.toNat c.threads.toNat) (.slice (some ⟨w1.heap.size + 1 + 1, 0, none⟩) c.threads.toNat c.threads.toNat) (.slice (some ⟨w1.heap.size, 0, none⟩) c.threads.toNat c.threads.toNat)).2.2) ((hF (.slice (some ⟨w1.heap.size + 1, 0, none⟩) c.threads.toNat c.threads.toNat) (.slice (some ⟨w1.heap.size + 1 + 1, 0, none⟩) c.threads.toNat c.threads.toNat) (.slice (some ⟨w1.heap.size, 0, none⟩) c.threads.toNat c.threads.toNat)).1), ((((B1.trans ((hP (.slice (some ⟨w1.heap.size + 1, 0, none⟩) c.threads.toNat c.threads.toNat) (.slice (some ⟨w1.heap.size + 1 + 1, 0, none⟩) c.threads.toNat c.threads.toNat) (.slice (some ⟨w1.heap.size, 0, none⟩) c.threads.toNat c.threads.toNat)).2.below B1.size fun i hi e => by omega)).alloc (by rw [hX]; exact B1.size) _).alloc (by simp only [World.size_alloc, hX]; exact Nat.le_succ_of_le B1.size) _).alloc (by simp only [World.size_alloc, hX]; exact Nat.le_succ_of_le (Nat.le_succ_of_le B1.size)) _).drew, fr3 (by omega) (by omega) (by omega)⟩
  · exact bodyPost_ret (v := .tuple #[.agg #[.int .i64 c.threads, .int .i64 c.buckets, .int .i64 c.inserts, .int .i64 c.fuel, .int .i64 c.calls, .slice (some ⟨w1.heap.size + 1 + 1, 0, none⟩) c.threads.toNat c.threads.toNat, .slice (some ⟨w1.heap.size + 1, 0, none⟩) c.threads.toNat c.threads.toNat, .slice (some ⟨w1.heap.size, 0, none⟩) c.threads.toNat c.threads.toNat, .slice none 0 0, .slice none 0 0], .int .i64 0]) (res_cell_tmp (fn := Tryz.f130) Tryz.results130 _ _ (w.heap.size + 1) _ _ rfl ((((hP (.slice (some ⟨w1.heap.size + 1 + 1, 0, none⟩) c.threads.toNat c.threads.toNat) (.slice (some ⟨w1.heap.size + 1, 0, none⟩) c.threads.toNat c.threads.toNat) (.slice (some ⟨w1.heap.size, 0, none⟩) c.threads.toNat c.threads.toNat)).1.alloc _).alloc _).alloc _).drew Tryz.underlying43 rfl (by kernel_rfl)) rfl ⟨⟨(none, 0), (some ⟨w1.heap.size + 1 + 1, 0, none⟩, c.threads.toNat), (some ⟨w1.heap.size + 1, 0, none⟩, c.threads.toNat), (some ⟨w1.heap.size, 0, none⟩, c.threads.toNat), (none, 0), (none, 0)⟩, by rw [book_new_val], book_new_in ((hF (.slice (some ⟨w1.heap.size + 1 + 1, 0, none⟩) c.threads.toNat c.threads.toNat) (.slice (some ⟨w1.heap.size + 1, 0, none⟩) c.threads.toNat c.threads.toNat) (.slice (some ⟨w1.heap.size, 0, none⟩) c.threads.toNat c.threads.toNat)).2.2) ((hF (.slice (some ⟨w1.heap.size + 1 + 1, 0, none⟩) c.threads.toNat c.threads.toNat) (.slice (some ⟨w1.heap.size + 1, 0, none⟩) c.threads.toNat c.threads.toNat) (.slice (some ⟨w1.heap.size, 0, none⟩) c.threads.toNat c.threads.toNat)).2.1) ((hF (.slice (some ⟨w1.heap.size + 1 + 1, 0, none⟩) c.threads.toNat c.threads.toNat) (.slice (some ⟨w1.heap.size + 1, 0, none⟩) c.threads.toNat c.threads.toNat) (.slice (some ⟨w1.heap.size, 0, none⟩) c.threads.toNat c.threads.toNat)).1), ((((B1.trans ((hP (.slice (some ⟨w1.heap.size + 1 + 1, 0, none⟩) c.threads.toNat c.threads.toNat) (.slice (some ⟨w1.heap.size + 1, 0, none⟩) c.threads.toNat c.threads.toNat) (.slice (some ⟨w1.heap.size, 0, none⟩) c.threads.toNat c.threads.toNat)).2.below B1.size fun i hi e => by omega)).alloc (by rw [hX]; exact B1.size) _).alloc (by simp only [World.size_alloc, hX]; exact Nat.le_succ_of_le B1.size) _).alloc (by simp only [World.size_alloc, hX]; exact Nat.le_succ_of_le (Nat.le_succ_of_le B1.size)) _).drew, fr3 (by omega) (by omega) (by omega)⟩
end Go.Proofs.YtccmjljlfgbicaaGreat

/- Laws for the walk: what is read of a block known whole, and what is laid into it, whole or in part; the world behind a store is told by what it holds. -/
namespace Go.Proofs.YtccmjljlfgbicaaGreat
open Go.ChangeShapes Go.WideShapes Go.ChangeAt Go.RowKit

section
variable {P : Program}
def setsA (cs : Array Value) : Nat → List Value → Array Value
  | _, [] => cs
  | k, v :: vs => setsA (cs.setIfInBounds k v) (k + 1) vs
theorem setsA_eq : ∀ (vs : List Value) (cs : Array Value) (k : Nat), k + vs.length ≤ cs.size → setsA cs k vs = (cs.toList.take k ++ vs ++ cs.toList.drop (k + vs.length)).toArray
  | [], cs, k, _ => by simp [setsA]
  | v :: vs, cs, k, h => by
    simp only [List.length_cons] at h
    rw [setsA, setsA_eq vs _ (k + 1) (by simp; omega)]
    have hk : k < cs.toList.length := by simp; omega
    have e1 : (cs.toList.set k v).take (k + 1) = cs.toList.take k ++ [v] := by
      rw [List.take_succ_eq_append_getElem (by simpa using hk), List.take_set_of_le (Nat.le_refl _), List.getElem_set_self]
    have e2 : (cs.toList.set k v).drop (k + 1 + vs.length) = cs.toList.drop (k + 1 + vs.length) := List.drop_set_of_lt (by omega)
    rw [Array.toList_setIfInBounds, e1, e2]
    simp only [List.length_cons, List.append_assoc, List.singleton_append]
    rw [show k + (vs.length + 1) = k + 1 + vs.length by omega]

theorem run_storeCells_mid (g : Nat) (t : TypeId) (o : Nat) : ∀ (vs : List Value) (i : Nat) (cur : Array Value) (w : World), At w g t cur → o + i + vs.length ≤ cur.size → (∀ v ∈ vs, v.oneCell' = true) →
    ∃ w', (storeCells ⟨g, o, none⟩ vs i).run P w = .ok () w' ∧ At w' g t (setsA cur (o + i) vs) ∧ Only (fun j => j = g) w w'
  | [], i, cur, w, hA, _, _ => ⟨w, rfl, hA, Only.refl _ _⟩
  | v :: vs, i, cur, w, hA, hl, h1 => by
    simp only [List.length_cons] at hl
    have hadd : (⟨g, o, none⟩ : Addr).add i = ⟨g, o + i, none⟩ := Addr.add_lit _ _ _
    have hi : o + i < cur.size := by omega
    have hcell : w.cell? ⟨g, o + i, none⟩ = some cur[o + i] := by rw [hA.cell]; simp [hi]
    have hst : (store ((⟨g, o, none⟩ : Addr).add i) v).run P w = .ok () (w.setCell ⟨g, o + i, none⟩ v) := by
      rw [hadd, run_store P w _ v _ (h1 v (by simp)), hcell]
      simp [hA.frozen]
    obtain ⟨w', e1, e2, e3⟩ := run_storeCells_mid g t o vs (i + 1) (cur.setIfInBounds (o + i) v) (w.setCell ⟨g, o + i, none⟩ v) (hA.set _ v) (by simp; omega) (fun x hx => h1 x (by simp [hx]))
    refine ⟨w', ?_, e2, ((Only.refl (fun j => j = g) w).set (p := ⟨g, o + i, none⟩) (.inl rfl) v).trans e3⟩
    simp only [storeCells, Sem.run_bind, hst, Result.andThen_ok, e1]

variable {ops : Array Oper} {rest : List Oper} {o : Oper} {a : Act} {w : World} {Q : Exit → Act → World → Prop}
/-- Something is laid into a block. -/
theorem wpl_st (hgd : o.guard = none) (ty : TypeId) (x y : Operand) (ho : o.op = .store ty x y) {g i : Nat} {t : TypeId} {cs : Array Value} (cs' : Array Value) (hx : a.eval x = .pointer (some ⟨g, i, none⟩)) (v : Value) (hy : a.eval y = v) (hA : At w g t cs)
    (hi : (P.info? ty).map (·.size) = some v.cells.size) (h1 : v.cells.toList.all (·.oneCell') = true) (hcs : (cs.toList.take i ++ v.cells.toList ++ cs.toList.drop (i + v.cells.size)).toArray = cs') (hb : Nat.ble (i + v.cells.size) cs.size = true)
    (h : ∀ w', At w' g t cs' → Only (fun j => j = g) w w' → wpList P ops Q rest (a.put o.dst undef) w') : wpList P ops Q (o :: rest) a w := by
  have hb' := Nat.le_of_ble_eq_true hb
  obtain ⟨w', e1, e2, e3⟩ := run_storeCells_mid (P := P) g t i v.cells.toList 0 cs w hA (by simpa using hb') (List.all_eq_true.1 h1)
  rw [setsA_eq _ _ _ (by simpa using hb'), Nat.add_zero, Array.length_toList, hcs] at e2
  refine wpList_plain hgd fun K hK => ?_
  have hs : (storeVar ty ⟨g, i, none⟩ v).run P w = .ok () w' := by
    cases hq : P.info? ty with
    | none => simp [hq] at hi
    | some inf =>
      have hsz : v.cells.size = inf.size := by simp [hq] at hi; omega
      simp [storeVar, sizeOf, typeInfo, hq, hsz, e1]
  unfold Oper.wp execOp
  simp only [ho, hx, hy, Instr.storeAt, Instr.sureAddr, Sem.run_bind, Sem.run_pure, Result.andThen_ok, hs]
  exact hK _ _ (h w' e2 e3)
/-- A struct is read out of a block. -/
theorem wpl_ld (hgd : o.guard = none) (ty : TypeId) (x : Operand) (ho : o.op = .load ty x) {g i : Nat} {t : TypeId} {cs : Array Value} (vs : Array Value) (hx : a.eval x = .pointer (some ⟨g, i, none⟩)) (d : TypeDesc) (hA : At w g t cs)
    (hu : P.underlying ty = some d) (hd : (match d with | .struct _ | .array _ _ => true | _ => false) = true) (hi : (P.info? ty).map (·.size) = some vs.size) (hvs : (cs.toList.drop i).take vs.size = vs.toList)
    (h : wpList P ops Q rest (a.put o.dst (.agg vs)) w) : wpList P ops Q (o :: rest) a w := by
  have hl : (loadCells ⟨g, i, none⟩ vs.toList.length).run P w = .ok vs.toList.toArray w :=
    run_loadCells_list (P := P) w ⟨g, i, none⟩ vs.toList (fun j v hv => by
      have hadd : (⟨g, i, none⟩ : Addr).add j = ⟨g, i + j, none⟩ := Addr.add_lit _ _ _
      have hj : j < vs.toList.length := (List.getElem?_eq_some_iff.1 hv).1
      rw [Array.length_toList] at hj
      rw [hadd, hA.cell]
      rw [← hvs, List.getElem?_take_of_lt hj, List.getElem?_drop] at hv
      rwa [Array.getElem?_toList] at hv)
  refine wpList_plain hgd fun K hK => ?_
  have hs : (loadVar ty ⟨g, i, none⟩).run P w = .ok (.agg vs) w := by
    cases hq : P.info? ty with
    | none => simp [hq] at hi
    | some inf =>
      have hsz : inf.size = vs.size := by simpa [hq] using hi
      have hagg : (isAgg ty).run P w = .ok true w := by
        unfold isAgg
        rw [Sem.run_bind, run_underlying hu w]
        cases d <;> simp_all
      simp only [Array.length_toList, Array.toArray_toList] at hl
      simp [loadVar, Sem.run_bind, hagg, sizeOf, typeInfo, hq, hsz, hl]
  unfold Oper.wp execOp
  simp only [ho, hx, Instr.loadAt, Instr.sureAddr, Sem.run_bind, Sem.run_pure, Result.andThen_ok, hs]
  exact hK _ _ h
end
theorem Only.step {S : Nat → Prop} {w w' w'' : World} (h : Only S w w') {g : Nat} (hg : S g ∨ w.heap.size ≤ g) (ho : Only (fun j => j = g) w' w'') : Only S w w'' :=
  ⟨ho.os.trans h.os, ho.tape.trans h.tape, ho.output.trans h.output, Nat.le_trans h.size ho.size, fun i hi hs => (ho.block i (Nat.lt_of_lt_of_le hi h.size) (fun e => by
    subst e
    rcases hg with hg | hg
    · exact hs hg
    · omega)).trans (h.block i hi hs)⟩
end Go.Proofs.YtccmjljlfgbicaaGreat

