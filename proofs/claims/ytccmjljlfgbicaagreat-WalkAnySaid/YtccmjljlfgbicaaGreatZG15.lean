/- A world and the document's answer, side by side: the same state in both, and neither lies where the other does. -/
import Derived.Test.YtccmjljlfgbicaaGreatZG14
import Derived.Test.YtccmjljlfgbicaaGreatZG6
import Derived.Test.YtccmjljlfgbicaaGreatZG10
import Derived.Deep.RegionHeld3
import Derived.Test.YtccmjljlfgbicaaGreatZG7
namespace Go.Proofs.YtccmjljlfgbicaaGreat
open Go.ChangeShapes Go.WideShapes Go.ChangeAt Go.RowKit

theorem Holds.own_lt {k : Blks} {s : St} {w : World} (h : Holds k s w) : ∀ i, Own k i → i < w.heap.size := by
  intro i hi
  apply Nat.lt_of_not_le
  intro hn
  exact h.fresh hn hi
/-- The document's answer lies elsewhere than a world. -/
structure Aside (k : Blks) (r : RV) : Prop where
  rows : RowsOff r (Own k)
  words : ∀ b o, r.w.1 = some ⟨b, o, none⟩ → ¬ Own k b
structure Both (k : Blks) (r : RV) (s : St) (w : World) : Prop where
  holds : Holds k s w
  ref : RefIn w r s
  aside : Aside k r
section
variable {k : Blks} {r : RV} {s s1 : St} {w w1 w2 : World}
theorem RefIn.aside (h : RefIn w r s) (ha : Aside k r) (ho : Only (Own k) w w1) : RefIn w1 r s :=
  ⟨h.words.only ho fun b o e _ => ha.words b o e, h.book.only ho ha.rows⟩
theorem Aside.next (ha : Aside k r) (h : Holds k s w) {p : Sl} (hf : Fr w.heap.size r.w.1 p.1) : Aside k { r with w := p } :=
  ⟨⟨ha.rows.cs, ha.rows.is, ha.rows.ms, ha.rows.os, ha.rows.ns⟩, hf.off (N := Own k) ha.words h.own_lt⟩
theorem Both.below (h : Both k r s w) (hb : Below w.heap.size w w1) : Both k r s w1 := ⟨h.holds.below hb, h.ref.below hb, h.aside⟩
/-- Both make a step: the world first. -/
theorem Both.step (hB : Both k r s w) (hH : Holds k s1 w1) (_hO : Only (Own k) w w1) {p : Sl} (hr : ReadAt w2 p.1 (wordsV s1.words)) (hb : Below w1.heap.size w1 w2) (hf : Fr w1.heap.size r.w.1 p.1) (hBk : BookIn w2 { r with w := p } s1) : Both k { r with w := p } s1 w2 :=
  ⟨hH.below hb, ⟨hr, hBk⟩, hB.aside.next hH hf⟩
end
end Go.Proofs.YtccmjljlfgbicaaGreat

/- Contract of corrieref07.Key: a region that draws, with an alloc that may come first. -/
namespace Go.Proofs.YtccmjljlfgbicaaGreat
open Go.ChangeShapes Go.WideShapes Go.ChangeAt Go.RowKit

theorem below_then {B : Nat} {w W w3 : World} (hb : Below W.heap.size W w3) (h : Below B w W) (hB : B ≤ w.heap.size) : Below B w w3 := h.trans (hb.mono (Nat.le_trans hB h.size))

theorem below_set {w w3 : World} (h : Below w.heap.size w w3) {g i : Nat} {u : Value} (hg : w.heap.size ≤ g) : Below w.heap.size w (w3.setCell ⟨g, i, none⟩ u) :=
  h.trans (((Only.refl (fun j => j = g) w3).set (p := ⟨g, i, none⟩) (.inl rfl) u).below h.size fun j hj e => by omega)
theorem row_lt_at {w : World} {g : Nat} {t : TypeId} {cs : Array Value} (h : At w g t cs) : g < w.heap.size := h.lt

set_option maxRecDepth 100000 in
set_option maxHeartbeats 400000 in
theorem rkey_any {r : RV} {s : St} (n : Int) (w : World) (h : BookIn w r s) (hs : s.ops.length ≤ 4096) (hn : s.nodes.length ≤ 8192) :
    Calls Tryz.prog 148 #[r.book s, .int .i64 n] w fun e w' => e = .returned (.int .u64 (s.key n)) ∧ Below w.heap.size w w' := by
  have H := Lib.hid (fun (W : World) (hb : Below w.heap.size w W) => h.below hb)
  have HK := Lib.hid (show s.key n = (s.call (s.carried n)).key from rfl)
  clear h
  have A0 := At.new w 43 (r.bcells s)
  go_enter Tryz.func148, Tryz.ntmps148
  go_wp2_with fail
  go_region_held3 (fun w' => w'.cell? ⟨w.heap.size, 0, none⟩ = some (.int .i64 s.c.threads) ∧ w'.cell? ⟨w.heap.size, 1, none⟩ = some (.int .i64 s.c.buckets) ∧ w'.cell? ⟨w.heap.size, 2, none⟩ = some (.int .i64 s.c.inserts) ∧ w'.cell? ⟨w.heap.size, 3, none⟩ = some (.int .i64 s.c.fuel) ∧ w'.cell? ⟨w.heap.size, 4, none⟩ = some (.int .i64 s.c.calls) ∧ w'.cell? ⟨w.heap.size, 5, none⟩ = some (.slice r.cs.1 s.thr.length r.cs.2) ∧ w'.cell? ⟨w.heap.size, 6, none⟩ = some (.slice r.is.1 s.thr.length r.is.2) ∧ w'.cell? ⟨w.heap.size, 7, none⟩ = some (.slice r.ms.1 s.thr.length r.ms.2) ∧ w'.cell? ⟨w.heap.size, 8, none⟩ = some (.slice r.os.1 s.ops.length r.os.2) ∧ w'.cell? ⟨w.heap.size, 9, none⟩ = some (.slice r.ns.1 s.nodes.length r.ns.2))
    (first | go_keep | exact (at10 K3).1 | exact (at10 K2).1 | exact (at10 (K3.alloc _)).1)
    ((first
      | (go_at_call 78
         refine (rcarried_any n _ (H.out _ ?hb) hn).mono ?_
         case hb => (repeat first | exact Below.refl _ _ | refine Below.drew ?_ | refine Below.alloc ?_ (by simp) _)
         rintro e w2 ⟨rfl, hb2⟩
         have BB2 : Below w.heap.size w w2 := (by refine below_then hb2 ?_ (Nat.le_refl _); repeat first | exact Below.refl _ _ | refine Below.drew ?_ | refine Below.alloc ?_ (by simp) _)
         have K2 : At w2 w.heap.size 43 (r.bcells s) := (by refine At.below' ?_ hb2; repeat first | with_reducible exact A0 | refine At.drew ?_ | refine At.alloc ?_ _)
         try (have Z2 : At w2 (w.heap.size + 1) 28 zero4 := (by refine At.below' ?_ hb2; refine At.drew ?_; with_reducible exact At.new1 w _ _ _)))
      | (go_at_call 119
         refine (rcall_any (s.carried n) _ (H.out _ ?hb) hs).mono ?_
         case hb => (repeat first | exact BB2 | refine Below.alloc ?_ BB2.size _)
         rintro e w3 ⟨rfl, hb3⟩
         have BB3 : Below w.heap.size w w3 := (by refine below_then hb3 ?_ (Nat.le_refl _); repeat first | exact BB2 | refine Below.alloc ?_ BB2.size _)
         have K3 : At w3 w.heap.size 43 (r.bcells s) := (by refine At.below' ?_ hb3; repeat first | with_reducible exact K2 | refine At.alloc ?_ _)
         have hl2 := row_lt_at K2
         have n1 : ¬ w2.heap.size = w.heap.size := by omega
         have n2 : ¬ w.heap.size = w2.heap.size := by omega
         first
           | (have Z3 : At w3 (w.heap.size + 1) 28 zero4 := (by refine At.below' ?_ hb3; with_reducible exact Z2)
              obtain ⟨⟨z0, z1, z2, z3⟩, zf, zl⟩ := at4 Z3)
           | (have Z3 : At w3 w2.heap.size 28 zero4 := (by refine At.below' ?_ hb3; with_reducible exact At.new w2 _ _)
              obtain ⟨⟨z0, z1, z2, z3⟩, zf, zl⟩ := at4 Z3)
           | skip)))
  all_goals
    go_wp2
    go_ret
    refine ⟨ret_u HK.out.symm, ?_⟩
    repeat first | exact BB3 | refine Below.alloc ?_ BB3.size _ | refine below_set ?_ (by omega)

end Go.Proofs.YtccmjljlfgbicaaGreat

/- Contract of corrieref10.arrive. -/
namespace Go.Proofs.YtccmjljlfgbicaaGreat
open Go.ChangeShapes Go.WideShapes Go.ChangeAt Go.RowKit

/-- A book of a size that may be. -/
def Sized (s : St) : Prop := s.ops.length ≤ 4096 ∧ s.nodes.length ≤ 8192
abbrev zeroW : Array Value := Walk.cells ⟨0, 0, 0, 0, 0, 0, 0, 0, false, false⟩

theorem At.drewN {w : World} {g : Nat} {t : TypeId} {cs : Array Value} (h : At w g t cs) (n : Nat) : At (w.drewN n) g t cs := h

set_option maxRecDepth 100000 in
set_option maxHeartbeats 600000 in
theorem rarrive_any {r : RV} {s : St} (x : Walk) (w : World) (h : RefIn w r s) (hz : Sized s) :
    Calls Tryz.prog 162 #[r.val s, x.val] w fun e w' => e = .returned (s.arrive x x.curr).val ∧ Below w.heap.size w w' := by
  have H := Lib.hid h
  have HZ := Lib.hid hz
  have A0 := ((At.new w 45 (r.cells s)).alloc (.cells x.cells 76)).alloc (.cells zeroW 76)
  have A1 := (At.new1 w (.cells (r.cells s) 45) 76 x.cells).alloc (.cells zeroW 76)
  have A2 : At (((w.alloc (.cells (r.cells s) 45)).alloc (.cells x.cells 76)).alloc (.cells zeroW 76)) (w.heap.size + 1 + 1) 76 zeroW := by
    have := At.new1 (w.alloc (.cells (r.cells s) 45)) (.cells x.cells 76) 76 zeroW
    rwa [World.size_alloc] at this
  have B0 : Below w.heap.size w (((w.alloc (.cells (r.cells s) 45)).alloc (.cells x.cells 76)).alloc (.cells zeroW 76)) := (below_twice w _ _).alloc (by simp; omega) _
  clear h hz
  by_cases h0 : x.curr = 0
  · have h0' : (x.curr == 0) = true := by simpa using h0
    have Ha := Lib.hid (show s.arrive x x.curr = { x with done := true } by unfold St.arrive; rw [if_pos (.inl h0)])
    clear h0
    go_enter Tryz.func162, Tryz.ntmps162
    go_wp2_with fail
    generalize (((w.alloc (.cells (r.cells s) 45)).alloc (.cells x.cells 76)).alloc (.cells zeroW 76)) = w0 at *
    obtain ⟨⟨y0, y1, y2, y3, y4, y5, y6, y7, y8, y9⟩, yf, yl⟩ := at10 A1
    obtain ⟨⟨z0, z1, z2, z3, z4, z5, z6, z7, z8, z9⟩, zf, zl⟩ := at10 A2
    clear A0
    go_quiet (fail)
    go_wp2_with fail
    have K2 : At (w0.drewN nq) (w.heap.size + 1 + 1) 76 zeroW := At.drewN A2 nq
    have B3 : Below w.heap.size w (w0.drewN nq) := bl_drewN B0 nq
    exact bodyPost_ret (v := Walk.val { x with done := true }) (res_cell (fn := Tryz.f162) Tryz.results162 _ _ (w.heap.size + 1 + 1) _ _ rfl (put10 (K2.far (p := ⟨w.heap.size + 1, 9, none⟩) (by simp) (.bool true)) _ _ _ _ _ _ _ _ _ _).1 Tryz.underlying76 rfl (by kernel_rfl)) rfl ⟨by rw [Ha.out], below_set (below_set (below_set (below_set (below_set (below_set (below_set (below_set (below_set (below_set (below_set B3 (by omega)) (by omega)) (by omega)) (by omega)) (by omega)) (by omega)) (by omega)) (by omega)) (by omega)) (by omega)) (by omega)⟩
  · have h0' : (x.curr == 0) = false := by simpa using h0
    go_enter Tryz.func162, Tryz.ntmps162
    go_wp2_with fail
    go_region_held3 (fun w' => w'.cell? ⟨w.heap.size, 7, none⟩ = some (.int .i64 s.c.threads) ∧ w'.cell? ⟨w.heap.size, 8, none⟩ = some (.int .i64 s.c.buckets) ∧ w'.cell? ⟨w.heap.size, 9, none⟩ = some (.int .i64 s.c.inserts) ∧ w'.cell? ⟨w.heap.size, 10, none⟩ = some (.int .i64 s.c.fuel) ∧ w'.cell? ⟨w.heap.size, 11, none⟩ = some (.int .i64 s.c.calls) ∧ w'.cell? ⟨w.heap.size, 12, none⟩ = some (.slice r.cs.1 s.thr.length r.cs.2) ∧ w'.cell? ⟨w.heap.size, 13, none⟩ = some (.slice r.is.1 s.thr.length r.is.2) ∧ w'.cell? ⟨w.heap.size, 14, none⟩ = some (.slice r.ms.1 s.thr.length r.ms.2) ∧ w'.cell? ⟨w.heap.size, 15, none⟩ = some (.slice r.os.1 s.ops.length r.os.2) ∧ w'.cell? ⟨w.heap.size, 16, none⟩ = some (.slice r.ns.1 s.nodes.length r.ns.2) ∧ w'.cell? ⟨w.heap.size + 1, 4, none⟩ = some (.int .i64 x.curr) ∧ w'.cell? ⟨w.heap.size + 1, 0, none⟩ = some (.int .u64 x.key))
      (first | go_keep | exact ⟨b7, b8, b9, b10, b11, b12, b13, b14, b15, b16, y4, y0⟩)
      ((first | (go_at_call 148; refine (rkey_any x.curr _ (H.out.book.below B0.drew) HZ.out.1 HZ.out.2).mono ?_; rintro e w2 ⟨rfl, hb2⟩; have K0 := A0.drew.below' hb2; have K1 := A1.drew.below' hb2; obtain ⟨⟨-, -, -, -, -, -, -, b7, b8, b9, b10, b11, b12, b13, b14, b15, b16⟩, bf, bl⟩ := at17 K0; obtain ⟨⟨y0, y1, y2, y3, y4, y5, y6, y7, y8, y9⟩, yf, yl⟩ := at10 K1)))
    have K2 := A2.drew.below' hb2
    obtain ⟨⟨z0, z1, z2, z3, z4, z5, z6, z7, z8, z9⟩, zf, zl⟩ := at10 K2
    have hs2 := hb2.size
    simp at hs2
    have B3 : Below w.heap.size w w2 := B0.drew.trans (hb2.mono (by simp; omega))
    clear b7 b8 b9 b10 b11 b12 b13 b14 b15 b16 bf bl K0 hb2 A0 A1 A2
    by_cases hk : x.key < s.key x.curr
    · have Ha := Lib.hid (show s.arrive x x.curr = { x with done := true } by unfold St.arrive; rw [if_pos (.inr hk)])
      go_wp2_with fail
      exact bodyPost_ret (v := Walk.val { x with done := true }) (res_cell (fn := Tryz.f162) Tryz.results162 _ _ (w.heap.size + 1 + 1) _ _ rfl (put10 (K2.far (p := ⟨w.heap.size + 1, 9, none⟩) (by simp) (.bool true)) _ _ _ _ _ _ _ _ _ _).1 Tryz.underlying76 rfl (by kernel_rfl)) rfl ⟨by rw [Ha.out], below_set (below_set (below_set (below_set (below_set (below_set (below_set (below_set (below_set (below_set (below_set B3 (by omega)) (by omega)) (by omega)) (by omega)) (by omega)) (by omega)) (by omega)) (by omega)) (by omega)) (by omega)) (by omega)⟩
    · have Ha := Lib.hid (show s.arrive x x.curr = { x with phase := 1 } by unfold St.arrive; rw [if_neg (by omega)])
      go_wp2_with fail
      exact bodyPost_ret (v := Walk.val { x with phase := 1 }) (res_cell (fn := Tryz.f162) Tryz.results162 _ _ (w.heap.size + 1 + 1) _ _ rfl (put10 (K2.far (p := ⟨w.heap.size + 1, 2, none⟩) (by simp) (.int .i64 1)) _ _ _ _ _ _ _ _ _ _).1 Tryz.underlying76 rfl (by kernel_rfl)) rfl ⟨by rw [Ha.out], below_set (below_set (below_set (below_set (below_set (below_set (below_set (below_set (below_set (below_set (below_set B3 (by omega)) (by omega)) (by omega)) (by omega)) (by omega)) (by omega)) (by omega)) (by omega)) (by omega)) (by omega)) (by omega)⟩

end Go.Proofs.YtccmjljlfgbicaaGreat

/- Regions that draw their order and lay two structs to hand back: what is kept. -/
namespace Go.Proofs.YtccmjljlfgbicaaGreat
open Go.ChangeShapes Go.WideShapes Go.ChangeAt Go.RowKit

theorem res_cells {P : Program} {fn : Func} {p q : Tmp} {tp tq : TypeId} (h : fn.results = #[.cell p tp, .cell q tq]) (tmps : Array Value) (w : World) (g g' : Nat) (cs cs' : Array Value) (d d' : TypeDesc)
    (hp : tmps.getD p undef = .pointer (some ⟨g, 0, none⟩)) (hq : tmps.getD q undef = .pointer (some ⟨g', 0, none⟩)) (hA : At w g tp cs) (hA' : At w g' tq cs')
    (hu : P.underlying tp = some d) (hd : (match d with | .struct _ | .array _ _ => true | _ => false) = true) (hi : (P.info? tp).map (·.size) = some cs.size)
    (hu' : P.underlying tq = some d') (hd' : (match d' with | .struct _ | .array _ _ => true | _ => false) = true) (hi' : (P.info? tq).map (·.size) = some cs'.size) :
    (results fn tmps).run P w = .ok (.tuple #[.agg cs, .agg cs']) w := by
  have e1 := run_loadVar_row (P := P) w g tp tp cs (0, 0) d hA hu hd hi
  have e2 := run_loadVar_row (P := P) w g' tq tq cs' (0, 0) d' hA' hu' hd' hi'
  simp only [results, h]
  rw [Array.getD_eq_getD_getElem?] at hp hq
  simp [Sem.run_bind, Result.andThen, hp, hq, asAddr, e1, e2]

/-- No two words beside one another. -/
def noTwo : List Value → Bool
  | .int .u64 _ :: .int .u64 _ :: _ => false
  | _ :: r => noTwo r
  | [] => true
theorem noTwo_get : ∀ {l : List Value} {o : Nat} {x y : Int}, noTwo l = true → l[o]? = some (.int .u64 x) → l[o + 1]? = some (.int .u64 y) → False
  | [], o, _, _, _, h, _ => by simp at h
  | a :: r, 0, x, y, hn, h1, h2 => by
    simp only [List.getElem?_cons_zero, Option.some.injEq] at h1
    subst h1
    cases r with
    | nil => simp at h2
    | cons b r =>
      simp only [Nat.zero_add, List.getElem?_cons_succ, List.getElem?_cons_zero, Option.some.injEq] at h2
      subst h2
      simp [noTwo] at hn
  | a :: r, o + 1, x, y, hn, h1, h2 => by
    rw [List.getElem?_cons_succ] at h1 h2
    refine noTwo_get (l := r) ?_ h1 h2
    unfold noTwo at hn
    split at hn
    · cases hn
    · rename_i e; injection e with e1 e2; subst e2; exact hn
    · rename_i e; cases e
theorem words_apart2 {w : World} {g : Nat} {t : TypeId} {cs : Array Value} {ao : Option Addr} {l : List Int} (h : ReadAt w ao (wordsV l)) (hA : At w g t cs) (hc : noTwo cs.toList = true) (hl : 2 ≤ l.length) : ∀ b o, ao = some ⟨b, o, none⟩ → ¬ b = g := by
  intro b o e hb
  subst hb
  have hlen : (wordsV l).length = l.length := by simp [wordsV]
  have get : ∀ j (hj : j < l.length), cs.toList[o + j]? = some (.int .u64 l[j]) := by
    intro j hj
    obtain ⟨b', o', h1, h2⟩ := h j (.int .u64 l[j]) (by simp [wordsV, hj])
    rw [e] at h1
    injection h1 with h1
    injection h1 with e1 e2
    subst e1 e2
    rw [hA.cell] at h2
    simpa using h2
  exact noTwo_get hc (get 0 (by omega)) (get 1 (by omega))
theorem words_two {s : St} (h : s.ok) : 2 ≤ s.words.length := by
  have h1 := h.len
  have h2 := nodes_bounds h.may
  have h3 := ops_bounds s.c
  have h4 := may_bounds h.may
  omega
theorem refin_only2 {w w' : World} {r : RV} {s : St} {g4 g5 : Nat} {t4 t5 : TypeId} {c4 c5 : Array Value} (h : RefIn w r s) (hl : 2 ≤ s.words.length) (a4 : At w g4 t4 c4) (a5 : At w g5 t5 c5) (n4 : noTwo c4.toList = true) (n5 : noTwo c5.toList = true)
    (hr : RowsOff r (fun j => j = g4 ∨ j = g5)) (ho : Only (fun j => j = g4 ∨ j = g5) w w') : RefIn w' r s :=
  ⟨h.words.only ho fun b o e _ k => k.elim (words_apart2 h.words a4 n4 hl b o e) (words_apart2 h.words a5 n5 hl b o e), h.book.only ho hr⟩
theorem refin_only1 {w w' : World} {r : RV} {s : St} {g4 : Nat} {t4 : TypeId} {c4 : Array Value} (h : RefIn w r s) (hl : 2 ≤ s.words.length) (a4 : At w g4 t4 c4) (n4 : noTwo c4.toList = true)
    (hr : RowsOff r (fun j => j = g4)) (ho : Only (fun j => j = g4) w w') : RefIn w' r s :=
  ⟨h.words.only ho fun b o e _ => words_apart2 h.words a4 n4 hl b o e, h.book.only ho hr⟩
theorem noTwo_rv (r : RV) (s : St) : noTwo (r.cells s).toList = true := rfl
theorem noTwo_zero17 : noTwo zero17.toList = true := by decide
theorem walk_one (x : Walk) : x.cells.all (·.oneCell') = true := by
  rw [Array.all_eq_true_iff_forall_mem]
  intro v hv
  simp at hv
  rcases hv with rfl | rfl | rfl | rfl | rfl | rfl | rfl | rfl | rfl | rfl <;> rfl
theorem cells_at {w : World} {T : Nat} {t : TypeId} {a b : Array Value} (h : At w T t a) (e : a = b) : At w T t b := e ▸ h
theorem noTwo_walk (x : Walk) : noTwo x.cells.toList = true := rfl

/-- What is kept: pure operations and calls yield what is told; two stores, n0 and n1, lay two structs. -/
structure OutG (n0 n1 : Nat) (T0 T1 : TypeId) (g4 g5 : Nat) (c0 cs c1 cw : Array Value) (F : Nat → Value → Prop) (W : World) (dn : Nat → Bool) (us : Nat → Value) (w : World) : Prop where
  only : Only (fun j => j = g4 ∨ j = g5) W w
  pre : ∀ j, j ≠ n0 → j ≠ n1 → dn j = true → F j (us j)
  a4 : At w g4 T0 (if dn n0 then cs else c0)
  a5 : At w g5 T1 (if dn n1 then cw else c1)
section
variable {n0 n1 : Nat} {T0 T1 : TypeId} {g4 g5 : Nat} {c0 cs c1 cw : Array Value} {F : Nat → Value → Prop} {W w : World} {dn : Nat → Bool} {us : Nat → Value}
theorem OutG.start (us : Nat → Value) (h4 : At W g4 T0 c0) (h5 : At W g5 T1 c1) : OutG n0 n1 T0 T1 g4 g5 c0 cs c1 cw F W (fun _ => false) us W :=
  ⟨Only.refl _ _, fun _ _ _ e => (by cases e), h4, h5⟩
theorem OutG.called (h : OutG n0 n1 T0 T1 g4 g5 c0 cs c1 cw F W dn us w) {i : Nat} {v : Value} {w' : World} (h0 : i ≠ n0) (h1 : i ≠ n1) (hv : F i v) (hb : Below w.heap.size w w') : OutG n0 n1 T0 T1 g4 g5 c0 cs c1 cw F W (updB dn i) (updN us i v) w' := by
  refine ⟨h.only.thenBelow hb, fun j a b e => ?_, ?_, ?_⟩
  · by_cases q : j = i
    · subst q; rw [updN_eq]; exact hv
    · rw [updB_ne q] at e; rw [updN_ne q]; exact h.pre j a b e
  · rw [updB_ne (Ne.symm h0)]; exact h.a4.below' hb
  · rw [updB_ne (Ne.symm h1)]; exact h.a5.below' hb
theorem OutG.first (h : OutG n0 n1 T0 T1 g4 g5 c0 cs c1 cw F W dn us w) {i : Nat} {v : Value} (h0 : i ≠ n0) (h1 : i ≠ n1) (hv : F i v) : OutG n0 n1 T0 T1 g4 g5 c0 cs c1 cw F W (updB dn i) (updN us i v) w :=
  h.called h0 h1 hv (Below.refl _ _)
theorem OutG.laid0 (h : OutG n0 n1 T0 T1 g4 g5 c0 cs c1 cw F W dn us w) (hn : n0 ≠ n1) (hg : g4 ≠ g5) {w' : World} (hO : Only (fun j => j = g4) w w') (hA : At w' g4 T0 cs) (v : Value) : OutG n0 n1 T0 T1 g4 g5 c0 cs c1 cw F W (updB dn n0) (updN us n0 v) w' := by
  refine ⟨h.only.trans (hO.mono fun _ _ => .inl), fun j a b e => ?_, ?_, ?_⟩
  · rw [updB_ne a] at e; rw [updN_ne a]; exact h.pre j a b e
  · rw [updB_eq]; exact hA
  · rw [updB_ne (Ne.symm hn)]; exact h.a5.only hO (Ne.symm hg)
theorem OutG.laid1 (h : OutG n0 n1 T0 T1 g4 g5 c0 cs c1 cw F W dn us w) (hn : n0 ≠ n1) (hg : g4 ≠ g5) {w' : World} (hO : Only (fun j => j = g5) w w') (hA : At w' g5 T1 cw) (v : Value) : OutG n0 n1 T0 T1 g4 g5 c0 cs c1 cw F W (updB dn n1) (updN us n1 v) w' := by
  refine ⟨h.only.trans (hO.mono fun _ _ => .inr), fun j a b e => ?_, ?_, ?_⟩
  · rw [updB_ne b] at e; rw [updN_ne b]; exact h.pre j a b e
  · rw [updB_ne hn]; exact h.a4.only hO hg
  · rw [updB_eq]; exact hA
theorem OutG.old0 (h : OutG n0 n1 T0 T1 g4 g5 c0 cs c1 cw F W dn us w) (hd : dn n0 = false) : At w g4 T0 c0 := by have := h.a4; rwa [hd] at this
theorem OutG.old1 (h : OutG n0 n1 T0 T1 g4 g5 c0 cs c1 cw F W dn us w) (hd : dn n1 = false) : At w g5 T1 c1 := by have := h.a5; rwa [hd] at this
theorem OutG.out0 (h : OutG n0 n1 T0 T1 g4 g5 c0 cs c1 cw F W dn us w) (hd : dn n0 = true) : At w g4 T0 cs := by have := h.a4; rwa [hd] at this
theorem OutG.out1 (h : OutG n0 n1 T0 T1 g4 g5 c0 cs c1 cw F W dn us w) (hd : dn n1 = true) : At w g5 T1 cw := by have := h.a5; rwa [hd] at this
end

/-- Two structs are read and laid. -/
theorem wp_out4 {P : Program} {id : Nat} {Q : Exit → Act → World → Prop} {a : Act} {w : World} {o0 o1 o2 o3 : Oper} {T0 T1 : TypeId} {x0 x1 y0 y1 z0 z1 : Operand} {gX gW g4 g5 : Nat} {cs c0 cw c1 : Array Value} {d0 d1 : TypeDesc}
    (hm : P.follows .mixedOrders = true) (hB : (dstsOk [o0, o1, o2, o3] && inTs [o0, o1, o2, o3] a.tmps.size && acyc [o0, o1, o2, o3] 0) = true)
    (hg : o0.guard = none ∧ o1.guard = none ∧ o2.guard = none ∧ o3.guard = none)
    (ho0 : o0.op = .load T0 x0) (ho1 : o1.op = .load T1 x1) (ho2 : o2.op = .store T0 y0 z0) (ho3 : o3.op = .store T1 y1 z1)
    (ex0 : ∀ us, evF [o0, o1, o2, o3] us a x0 = .pointer (some ⟨gX, 0, none⟩)) (ex1 : ∀ us, evF [o0, o1, o2, o3] us a x1 = .pointer (some ⟨gW, 0, none⟩))
    (ey0 : ∀ us, evF [o0, o1, o2, o3] us a y0 = .pointer (some ⟨g4, 0, none⟩)) (ey1 : ∀ us, evF [o0, o1, o2, o3] us a y1 = .pointer (some ⟨g5, 0, none⟩))
    (ez0 : ∀ us, evF [o0, o1, o2, o3] us a z0 = us 0) (ez1 : ∀ us, evF [o0, o1, o2, o3] us a z1 = us 1)
    (h2 : 0 ∈ o2.after.toList.filterMap fun e => if Region.binds .any e then some e.on else none) (h3 : 1 ∈ o3.after.toList.filterMap fun e => if Region.binds .any e then some e.on else none)
    (aX : At w gX T0 cs) (aW : At w gW T1 cw) (a4 : At w g4 T0 c0) (a5 : At w g5 T1 c1)
    (nX4 : gX ≠ g4) (nX5 : gX ≠ g5) (nW4 : gW ≠ g4) (nW5 : gW ≠ g5) (n45 : g4 ≠ g5)
    (hu0 : P.underlying T0 = some d0) (hd0 : (match d0 with | .struct _ | .array _ _ => true | _ => false) = true) (hi0 : (P.info? T0).map (·.size) = some cs.size) (hs0 : c0.size = cs.size) (h10 : cs.all (·.oneCell') = true)
    (hu1 : P.underlying T1 = some d1) (hd1 : (match d1 with | .struct _ | .array _ _ => true | _ => false) = true) (hi1 : (P.info? T1).map (·.size) = some cw.size) (hs1 : c1.size = cw.size) (h11 : cw.all (·.oneCell') = true)
    (hend : ∀ us w', At w' g4 T0 cs → At w' g5 T1 cw → Only (fun j => j = g4 ∨ j = g5) w w' → Q .normal (fillA [o0, o1, o2, o3] us a) w') : (Code.region id #[o0, o1, o2, o3] true).wp P Q a w := by
  refine wp_region_J (l := [o0, o1, o2, o3]) (OutG 2 3 T0 T1 g4 g5 c0 cs c1 cw (fun j v => match j with | 0 => v = .agg cs | 1 => v = .agg cw | _ => True) w.drew) hm hB (fun us => OutG.start us a4 a5) ⟨?_, ?_, ?_, ?_, trivial⟩ ?_
  · intro dn us w6 A hev hy hG hdn hdep K hK
    refine step_list (wpl_load hg.1 T0 x0 ho0 gX (by rw [hev]; exact ex0 us) cs d0 (aX.drew.only hG.only fun k => k.elim nX4 nX5) hu0 hd0 hi0 ⟨rfl, ?_⟩)
    exact hK _ _ (hG.first (by decide) (by decide) rfl)
  · intro dn us w6 A hev hy hG hdn hdep K hK
    refine step_list (wpl_load hg.2.1 T1 x1 ho1 gW (by rw [hev]; exact ex1 us) cw d1 (aW.drew.only hG.only fun k => k.elim nW4 nW5) hu1 hd1 hi1 ⟨rfl, ?_⟩)
    exact hK _ _ (hG.first (by decide) (by decide) rfl)
  · intro dn us w6 A hev hy hG hdn hdep K hK
    have d0 : dn 0 = true := allD_mem hdep h2
    refine step_list (wpl_store hg.2.2.1 T0 y0 z0 ho2 g4 (by rw [hev]; exact ey0 us) cs c0 (by rw [hev, ez0 us]; exact hG.pre 0 (by decide) (by decide) d0) (hG.old0 hdn) hi0 hs0 h10 fun w7 A7 O7 => ⟨rfl, ?_⟩)
    exact hK _ _ (hG.laid0 (by decide) n45 O7 A7 _)
  · intro dn us w6 A hev hy hG hdn hdep K hK
    have d1 : dn 1 = true := allD_mem hdep h3
    refine step_list (wpl_store hg.2.2.2 T1 y1 z1 ho3 g5 (by rw [hev]; exact ey1 us) cw c1 (by rw [hev, ez1 us]; exact hG.pre 1 (by decide) (by decide) d1) (hG.old1 hdn) hi1 hs1 h11 fun w7 A7 O7 => ⟨rfl, ?_⟩)
    exact hK _ _ (hG.laid1 (by decide) n45 O7 A7 _)
  · intro dn us w6 hG hall
    have hO := hG.only
    exact hend us w6 (hG.out0 (hall 2 (by show 2 < 4; decide))) (hG.out1 (hall 3 (by show 3 < 4; decide))) ⟨hO.os, hO.tape, hO.output, hO.size, hO.block⟩

/-- One of the first operations, a call that leaves memory as it was; where what is told says nothing of memory. -/
theorem CallG.firstB {k m : Nat} {T : TypeId} {zero : Array Value} {F : Nat → Value → Prop} {tup : RV → List Value} {cs : RV → Array Value} {R : RV → World → Prop} {W w w' : World} {dn : Nat → Bool} {us : Nat → Value} (h : CallG k m T zero F tup cs R W dn us w) (hR : ∀ ρ w1 w2, R ρ w1 → R ρ w2) {i : Nat} {v : Value} (hi : i < k) (hv : F i v) (hb : Below w.heap.size w w') : CallG k m T zero F tup cs R W (updB dn i) (updN us i v) w' := by
  refine ⟨h.only.trans (below_only hb), fun e => (by rw [updB_ne (by omega)] at e ⊢; exact h.st e), fun j hj e => ?_, fun e => ?_, fun e => ?_, fun j hj e => ?_, fun e => ?_, fun j h1 hj e => ?_⟩
  · by_cases q : j = i
    · subst q; rw [updN_eq]; exact hv
    · rw [updB_ne q] at e; rw [updN_ne q]; exact h.pre j hj e
  · rw [updB_ne (by omega)] at e
    rw [updN_ne (by omega)]
    obtain ⟨ρ, a, b, _⟩ := h.call e
    exact ⟨ρ, a, hR ρ _ _ b, fun _ _ _ w'' _ => hR ρ _ w'' b⟩
  · rw [updB_ne (by omega)] at e ⊢; rw [updN_ne (by omega), updN_ne (by omega)]; exact h.mv e
  · rw [updB_ne (by omega)] at e ⊢; rw [updN_ne (by omega), updN_ne (by omega)]; exact h.ext j hj e
  · rw [updB_ne (by omega)] at e
    rw [updB_ne (by omega), updB_ne (by omega), updN_ne (by omega), updN_ne (by omega)]
    obtain ⟨g, a, b, c, d, f⟩ := h.box e
    exact ⟨g, a, b, Nat.lt_of_lt_of_le c hb.size, fun q => (d q).below' hb, fun q => ⟨(f q).1, fun ρ hρ => ((f q).2 ρ hρ).below' hb⟩⟩
  · rw [updB_ne (by omega)] at e ⊢; rw [updN_ne (by omega), updN_ne (by omega)]; exact h.asg j h1 hj e

/-- The four boxes of a function of a world and one struct more: both, and room for both to hand back. -/
structure Box4 (T1 : TypeId) (z1 : Array Value) (W : World) (cX cW : Array Value) (w : World) : Prop where
  a0 : At w W.heap.size 45 cX
  a1 : At w (W.heap.size + 1) T1 cW
  a2 : At w (W.heap.size + 1 + 1) 45 zero17
  a3 : At w (W.heap.size + 1 + 1 + 1) T1 z1
  below : Below W.heap.size W w
section
variable {T1 : TypeId} {z1 cX cW cW' : Array Value} {W w w' : World}
theorem Box4.new (T1 : TypeId) (z1 : Array Value) (W : World) (cX cW : Array Value) : Box4 T1 z1 W cX cW ((((W.alloc (.cells cX 45)).alloc (.cells cW T1)).alloc (.cells zero17 45)).alloc (.cells z1 T1)) := by
  refine ⟨(((At.new W _ _).alloc _).alloc _).alloc _, ((At.new1 W _ _ _).alloc _).alloc _, ?_, ?_, (((Below.refl _ W).alloc (Nat.le_refl _) _).alloc (by simp) _).alloc (by simp; omega) _ |>.alloc (by simp; omega) _⟩
  · have := (At.new1 (W.alloc (.cells cX 45)) (.cells cW T1) 45 zero17).alloc (.cells z1 T1)
    rwa [World.size_alloc] at this
  · have := At.new1 ((W.alloc (.cells cX 45)).alloc (.cells cW T1)) (.cells zero17 45) T1 z1
    rwa [World.size_alloc, World.size_alloc] at this
theorem Box4.move (h : Box4 T1 z1 W cX cW w) (hb : Below w.heap.size w w') : Box4 T1 z1 W cX cW w' :=
  ⟨h.a0.below' hb, h.a1.below' hb, h.a2.below' hb, h.a3.below' hb, h.below.trans (hb.mono (by have := h.a3.lt; omega))⟩
theorem Box4.walk (h : Box4 T1 z1 W cX cW w) (hA : At w' (W.heap.size + 1) T1 cW') (hO : Only (fun j => j = W.heap.size + 1) w w') : Box4 T1 z1 W cX cW' w' :=
  ⟨h.a0.only hO (by show ¬ _ = _; omega), hA, h.a2.only hO (by show ¬ _ = _; omega), h.a3.only hO (by show ¬ _ = _; omega), h.below.trans (hO.below (by have := h.a3.lt; omega) fun i hi e => by have e' : i = W.heap.size + 1 := e; omega)⟩
theorem Box4.far (h : Box4 T1 z1 W cX cW w) {o : Obj} (hO : Only (fun j => j = w.heap.size) (w.alloc o) w') : Box4 T1 z1 W cX cW w' :=
  h.move (((Below.refl _ w).alloc (Nat.le_refl _) o).trans (hO.below (by simp) fun i hi e => by have e' : i = w.heap.size := e; omega))
theorem Box4.under (h : Box4 T1 z1 W cX cW w) (hO : Only (fun j => j = W.heap.size + 1 + 1 ∨ j = W.heap.size + 1 + 1 + 1) w w') : Below W.heap.size W w' :=
  h.below.trans (hO.below (by have := h.a3.lt; omega) fun i hi e => by have e' : i = W.heap.size + 1 + 1 ∨ i = W.heap.size + 1 + 1 + 1 := e; omega)
theorem Box4.under' (h : Box4 T1 z1 W cX cW w) (hO : Only (fun j => j = W.heap.size + 1 + 1 ∨ j = W.heap.size + 1 + 1 + 1) w.drew w') : Below W.heap.size W w' :=
  h.under ⟨hO.os, hO.tape, hO.output, hO.size, hO.block⟩
theorem Box4.fin (_h : Box4 T1 z1 W cX cW w) {w3 w4 : World} {c4 c5 : Array Value} (A3 : At w3 (W.heap.size + 1 + 1) 45 c4) (O3 : Only (fun j => j = W.heap.size + 1 + 1) w w3) (A4 : At w4 (W.heap.size + 1 + 1 + 1) T1 c5) (O4 : Only (fun j => j = W.heap.size + 1 + 1 + 1) w3 w4) :
    At w4 (W.heap.size + 1 + 1) 45 c4 ∧ At w4 (W.heap.size + 1 + 1 + 1) T1 c5 ∧ Only (fun j => j = W.heap.size + 1 + 1 ∨ j = W.heap.size + 1 + 1 + 1) w w4 :=
  ⟨A3.only O4 (by show ¬ _ = _; omega), A4, (O3.mono fun _ _ => .inl).trans (O4.mono fun _ _ => .inr)⟩
end
theorem ref_out_same {P : Program} {f : Nat} {args : Array Value} {w : World} {r : RV} {s s1 : St} {u : Value} (hw : s1.words = s.words) (h : RefIn w r s) (hc : Calls P f args w fun e w' => e = .returned (.tuple #[r.val s1, u]) ∧ Below w.heap.size w w') : Calls P f args w (RefOut w r (fun v => .tuple #[v, u]) s1) :=
  hc.mono fun _ _ ⟨a, b⟩ => ⟨r.w, a, by rw [hw]; exact h.words.below b, b, .inl rfl⟩
theorem RefIn.load {w : World} {r : RV} {s : St} (h : RefIn w r s) (p : Int) : RefIn w r (s.load p) := ⟨h.words, h.book.cs, h.book.is, h.book.ms, h.book.os, h.book.ns, h.book.os0, h.book.ns0⟩
end Go.Proofs.YtccmjljlfgbicaaGreat

