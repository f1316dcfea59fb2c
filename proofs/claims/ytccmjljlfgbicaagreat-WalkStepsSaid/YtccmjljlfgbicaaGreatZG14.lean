/- The document's world while a scene is laid: where it lies, and what its changes leave of it. -/
import Derived.Test.YtccmjljlfgbicaaGreatZG13
import Derived.Test.YtccmjljlfgbicaaGreatZRefF
import Derived.Deep.RegionHeld3
import Derived.Test.YtccmjljlfgbicaaGreatZG7
import Derived.Test.YtccmjljlfgbicaaGreatZG10
import Derived.Deep.RegionWith
namespace Go.Proofs.YtccmjljlfgbicaaGreat
open Go.ChangeShapes Go.WideShapes Go.ChangeAt Go.RowKit

theorem rv_no (r : RV) (s : St) : ∀ x, Value.int .u64 x ∉ (r.cells s).toList := by
  intro x h
  simp at h
/-- A book's rows lie elsewhere. -/
structure RowsOff (r : RV) (N : Nat → Prop) : Prop where
  cs : ∀ b o, r.cs.1 = some ⟨b, o, none⟩ → ¬ N b
  is : ∀ b o, r.is.1 = some ⟨b, o, none⟩ → ¬ N b
  ms : ∀ b o, r.ms.1 = some ⟨b, o, none⟩ → ¬ N b
  os : ∀ b o, r.os.1 = some ⟨b, o, none⟩ → ¬ N b
  ns : ∀ b o, r.ns.1 = some ⟨b, o, none⟩ → ¬ N b
theorem BookIn.only {w w' : World} {r : RV} {s : St} {S : Nat → Prop} (h : BookIn w r s) (ho : Only S w w') (hr : RowsOff r S) : BookIn w' r s :=
  ⟨h.cs.only ho fun b o e _ => hr.cs b o e, h.is.only ho fun b o e _ => hr.is b o e, h.ms.only ho fun b o e _ => hr.ms b o e, h.os.only ho fun b o e _ => hr.os b o e, h.ns.only ho fun b o e _ => hr.ns b o e, h.os0, h.ns0⟩
theorem read_lt {w : World} {ao : Option Addr} {cs : List Value} (h : ReadAt w ao cs) (hc : 0 < cs.length) {b o : Nat} (e : ao = some ⟨b, o, none⟩) : b < w.heap.size := by
  obtain ⟨b', o', h1, h2⟩ := h 0 _ (List.getElem?_eq_getElem hc)
  rw [e] at h1
  injection h1 with h1
  injection h1 with e1 e2
  subst e1
  exact World.block_lt_of_cell? w _ h2
/-- A book's rows lie in memory that there is. -/
theorem rows_lt {w : World} {r : RV} {s : St} (h : BookIn w r s) (ht : 0 < s.thr.length) : RowsOff r (fun b => ¬ b < w.heap.size) := by
  refine ⟨fun b o e k => k (read_lt h.cs (by simpa [intsV] using ht) e), fun b o e k => k (read_lt h.is (by simpa [intsV] using ht) e), fun b o e k => k (read_lt h.ms (by simpa [intsV] using ht) e), fun b o e k => ?_, fun b o e k => ?_⟩
  · cases hs : s.ops with
    | nil => rw [h.os0 hs] at e; cases e
    | cons a l => exact k (read_lt h.os (by rw [hs, opRows_len]; simp) e)
  · cases hs : s.nodes with
    | nil => rw [h.ns0 hs] at e; cases e
    | cons a l => exact k (read_lt h.ns (by rw [hs, nodeRows_len]; simp) e)
theorem RowsOff.imp {r : RV} {N N' : Nat → Prop} (h : RowsOff r N) (hi : ∀ b, N' b → N b) : RowsOff r N' :=
  ⟨fun b o e k => h.cs b o e (hi b k), fun b o e k => h.is b o e (hi b k), fun b o e k => h.ms b o e (hi b k), fun b o e k => h.os b o e (hi b k), fun b o e k => h.ns b o e (hi b k)⟩
/-- What is new lies elsewhere than in what was. -/
theorem RowsOff.fresh {r ρ : RV} {n : Nat} {N : Nat → Prop} (h : RowsOff r N) (hf : BookFr n r ρ) (hn : ∀ b, N b → b < n) : RowsOff ρ N := by
  have go : ∀ {a a' : Option Addr}, Fr n a a' → (∀ b o, a = some ⟨b, o, none⟩ → ¬ N b) → ∀ b o, a' = some ⟨b, o, none⟩ → ¬ N b := by
    rintro a a' (rfl | ⟨g, rfl, hg⟩) h b o e k
    · exact h b o e k
    · injection e with e
      injection e with e1 e2
      have := hn b k
      omega
  exact ⟨go hf.cs h.cs, go hf.is h.is, go hf.ms h.ms, go hf.os h.os, go hf.ns h.ns⟩

theorem RowsOff.nones (N : Nat → Prop) : RowsOff ⟨(none, 0), (none, 0), (none, 0), (none, 0), (none, 0), (none, 0)⟩ N :=
  ⟨fun _ _ e => (by cases e), fun _ _ e => (by cases e), fun _ _ e => (by cases e), fun _ _ e => (by cases e), fun _ _ e => (by cases e)⟩
structure LayAt (T L : Nat) (W5 : World) (r : RV) (s : St) (w : World) : Prop where
  at_ : At w T 45 (r.cells s)
  ref : RefIn w r s
  only : Only (fun j => j = T) W5 w
  off : RowsOff r (fun j => j = T)
  off2 : RowsOff r (fun j => j < L)
  offw : ∀ b o, r.w.1 = some ⟨b, o, none⟩ → ¬ b < L
  le : L ≤ T

section
variable {T L : Nat} {W5 wr w1 w2 : World} {r ρ : RV} {s s1 : St}
theorem words_off {w : World} {p : Sl} {l : List Int} (hl : 0 < l.length) (h : ReadAt w p.1 (wordsV l)) {cs : Array Value} {t : TypeId} (hA : At w T t cs) (hc : ∀ x, Value.int .u64 x ∉ cs.toList) : ∀ b o, p.1 = some ⟨b, o, none⟩ → ¬ b = T := words_apart h hA hc hl
/-- Another book is laid into it. -/
theorem LayAt.book (h : LayAt T L W5 r s wr) (hl : 0 < s.words.length) (hO1 : Only (fun _ => False) wr w1) (hB : BookIn w1 ρ s1) (hf : BookFr wr.heap.size r ρ) (hw : s1.words = s.words) (hA : At w2 T 45 (RV.cells { ρ with w := r.w } s1)) (hO2 : Only (fun j => j = T) w1 w2) : LayAt T L W5 { ρ with w := r.w } s1 w2 := by
  have hlt := h.at_.lt
  have off1 : RowsOff ρ (fun j => j = T) := h.off.fresh hf fun b e => by subst e; exact hlt
  have off2 : RowsOff ρ (fun j => j < L) := h.off2.fresh hf fun b e => by have := h.le; omega
  have wo := words_off hl h.ref.words h.at_ (rv_no r s)
  have hb := hB.only hO2 off1
  refine ⟨hA, ⟨?_, ⟨hb.cs, hb.is, hb.ms, hb.os, hb.ns, hb.os0, hb.ns0⟩⟩, ?_, ⟨off1.cs, off1.is, off1.ms, off1.os, off1.ns⟩, ⟨off2.cs, off2.is, off2.ms, off2.os, off2.ns⟩, h.offw, h.le⟩
  · rw [hw]
    exact (h.ref.words.only hO1 fun _ _ _ _ => id).only hO2 fun b o e _ => wo b o e
  · exact h.only.trans ((hO1.mono fun _ _ k => k.elim).trans hO2)
/-- Other words are. -/
theorem LayAt.words {p : Sl} (h : LayAt T L W5 r s wr) (hl : 0 < s1.words.length) (hO1 : Only (fun _ => False) wr w1) (hp : ReadAt w1 p.1 (wordsV s1.words)) (hf : Fr wr.heap.size r.w.1 p.1) (h1 : s1.thr = s.thr) (h2 : s1.ops = s.ops) (h3 : s1.nodes = s.nodes) (hA : At w2 T 45 (RV.cells { r with w := p } s1)) (hO2 : Only (fun j => j = T) w1 w2) : LayAt T L W5 { r with w := p } s1 w2 := by
  have hA1 : At w1 T 45 (r.cells s) := h.at_.only hO1 id
  have wo := words_off hl hp hA1 (rv_no r s)
  have hb := ((h.ref.book.only hO1 ⟨fun _ _ _ => id, fun _ _ _ => id, fun _ _ _ => id, fun _ _ _ => id, fun _ _ _ => id⟩).only hO2 h.off).other h1 h2 h3 p
  exact ⟨hA, ⟨hp.only hO2 fun b o e _ => wo b o e, hb⟩, h.only.trans ((hO1.mono fun _ _ k => k.elim).trans hO2), ⟨h.off.cs, h.off.is, h.off.ms, h.off.os, h.off.ns⟩, ⟨h.off2.cs, h.off2.is, h.off2.ms, h.off2.os, h.off2.ns⟩, hf.off (N := fun b => b < L) h.offw (fun b e => by have e' : b < L := e; have := h.le; have := h.at_.lt; omega), h.le⟩
end

theorem LayAt.below {T L : Nat} {W5 w w' : World} {r : RV} {s : St} (h : LayAt T L W5 r s w) (hb : Below w.heap.size w w') : LayAt T L W5 r s w' :=
  ⟨h.at_.below' hb, h.ref.below hb, h.only.trans (below_only hb), h.off, h.off2, h.offw, h.le⟩

/-- What is kept in a region that sets a reference: pure operations, the call, the store. -/
structure SetG (k : Nat) (T : Nat) (F : Nat → Value → Prop) (r : RV) (s s1 : St) (W : World) (dn : Nat → Bool) (us : Nat → Value) (w : World) : Prop where
  only : Only (fun j => j = T) W w
  same : dn k = false → w = W
  dk1 : dn (k + 1) = true → dn k = true
  dk0 : dn k = true → dn 0 = true
  pre : ∀ j, j < k → dn j = true → F j (us j)
  call : dn k = true → dn (k + 1) = false → ∃ p : Sl, us k = RV.val { r with w := p } s1 ∧ ReadAt w p.1 (wordsV s1.words) ∧ Fr W.heap.size r.w.1 p.1 ∧ Only (fun _ => False) W w
  st : dn (k + 1) = true → ∃ (p : Sl) (w1 : World), ReadAt w1 p.1 (wordsV s1.words) ∧ Fr W.heap.size r.w.1 p.1 ∧ Only (fun _ => False) W w1 ∧ Only (fun j => j = T) w1 w ∧ At w T 45 (RV.cells { r with w := p } s1)
section
variable {k T : Nat} {F : Nat → Value → Prop} {r : RV} {s s1 : St} {W w : World} {dn : Nat → Bool} {us : Nat → Value}
theorem SetG.start (us : Nat → Value) : SetG k T F r s s1 W (fun _ => false) us W :=
  ⟨Only.refl _ _, fun _ => rfl, fun e => (by cases e), fun e => (by cases e), fun _ _ e => (by cases e), fun e => (by cases e), fun e => (by cases e)⟩
theorem SetG.first (h : SetG k T F r s s1 W dn us w) {i : Nat} {v : Value} (hi : i < k) (hv : F i v) : SetG k T F r s s1 W (updB dn i) (updN us i v) w := by
  refine ⟨h.only, fun e => ?_, fun e => ?_, fun e => ?_, fun j hj e => ?_, fun e1 e2 => ?_, fun e => ?_⟩
  · rw [updB_ne (by omega)] at e; exact h.same e
  · rw [updB_ne (by omega)] at e ⊢; exact h.dk1 e
  · rw [updB_ne (by omega)] at e
    by_cases q : 0 = i
    · subst q; exact updB_eq
    · rw [updB_ne q]; exact h.dk0 e
  · by_cases q : j = i
    · subst q; rw [updN_eq]; exact hv
    · rw [updB_ne q] at e; rw [updN_ne q]; exact h.pre j hj e
  · rw [updB_ne (by omega)] at e1 e2; rw [updN_ne (by omega)]; exact h.call e1 e2
  · rw [updB_ne (by omega)] at e; exact h.st e
theorem SetG.called (h : SetG k T F r s s1 W dn us w) (hk : dn k = false) (h0 : dn 0 = true) (hk0 : k ≠ 0) {p : Sl} {w' : World} (hb : Below w.heap.size w w') (hr : ReadAt w' p.1 (wordsV s1.words)) (hf : Fr w.heap.size r.w.1 p.1) : SetG k T F r s s1 W (updB dn k) (updN us k (RV.val { r with w := p } s1)) w' := by
  have hw := h.same hk
  subst hw
  refine ⟨below_only hb, fun e => (by rw [updB_eq] at e; cases e), fun e => updB_eq, fun _ => by rw [updB_ne (by omega)]; exact h0, fun j hj e => ?_, fun _ _ => ⟨p, updN_eq, hr, hf, below_only hb⟩, fun e => ?_⟩
  · rw [updB_ne (by omega)] at e; rw [updN_ne (by omega)]; exact h.pre j hj e
  · rw [updB_ne (by omega)] at e
    have := h.dk1 e
    rw [hk] at this; cases this
theorem SetG.laid (h : SetG k T F r s s1 W dn us w) (hk : dn k = true) (hs : dn (k + 1) = false) {p : Sl} (hr : ReadAt w p.1 (wordsV s1.words)) (hf : Fr W.heap.size r.w.1 p.1) {w' : World} (hO : Only (fun j => j = T) w w') (hA : At w' T 45 (RV.cells { r with w := p } s1)) (v : Value) : SetG k T F r s s1 W (updB dn (k + 1)) (updN us (k + 1) v) w' := by
  obtain ⟨_, _, _, _, hO1⟩ := h.call hk hs
  refine ⟨(hO1.mono fun _ _ k => k.elim).trans hO, fun e => ?_, fun _ => by rw [updB_ne (by omega)]; exact hk, fun e => ?_, fun j hj e => ?_, fun _ e => ?_, fun _ => ⟨p, w, hr, hf, hO1, hO, hA⟩⟩
  · rw [updB_ne (by omega), hk] at e; cases e
  · rw [updB_ne (by omega)]; exact h.dk0 hk
  · rw [updB_ne (by omega)] at e; rw [updN_ne (by omega)]; exact h.pre j hj e
  · rw [updB_eq] at e; cases e
end
end Go.Proofs.YtccmjljlfgbicaaGreat

/- Contracts of the document's answer: a step of a world: Turn. (Printed by refgen.py.) -/
namespace Go.Proofs.YtccmjljlfgbicaaGreat
open Go.ChangeShapes Go.WideShapes Go.ChangeAt Go.RowKit

set_option maxRecDepth 100000 in
set_option maxHeartbeats 4000000 in
theorem rwturn_any {r : RV} {s : St} (n old x : Int) (w : World) (h : RefIn w r s) (hok : s.ok) :
    Calls Tryz.prog 64 #[r.val s, .int .i64 n, .int .u64 old, .int .u64 x] w (RefOut w r (fun v => .tuple #[v, .bool (s.swaps (s.wordAt n) old)]) (s.swap (s.wordAt n) old x)) := by
  have H := Lib.hid h
  have HM := Lib.hid hok.may
  have HW := Lib.hid (st_words hok)
  clear h hok
  go_enter Tryz.func64, Tryz.ntmps64
  go_wp2_with fail
  have A0 := (At.new w 45 (r.cells s)).alloc (.cells zero17 45)
  have A1 := At.new1 w (.cells (r.cells s) 45) 45 zero17
  go_region_held3 (fun w' => w'.cell? ⟨w.heap.size, 0, none⟩ = some (.int .i64 s.c.threads) ∧ w'.cell? ⟨w.heap.size, 1, none⟩ = some (.int .i64 s.c.buckets) ∧ w'.cell? ⟨w.heap.size, 2, none⟩ = some (.int .i64 s.c.inserts) ∧ w'.cell? ⟨w.heap.size, 3, none⟩ = some (.int .i64 s.c.fuel) ∧ w'.cell? ⟨w.heap.size, 4, none⟩ = some (.int .i64 s.c.calls) ∧ w'.cell? ⟨w.heap.size, 5, none⟩ = some (.slice r.w.1 s.words.length r.w.2) ∧ w'.cell? ⟨w.heap.size, 6, none⟩ = some (.int .i64 s.steps) ∧ w'.cell? ⟨w.heap.size, 7, none⟩ = some (.int .i64 s.c.threads) ∧ w'.cell? ⟨w.heap.size, 8, none⟩ = some (.int .i64 s.c.buckets) ∧ w'.cell? ⟨w.heap.size, 9, none⟩ = some (.int .i64 s.c.inserts) ∧ w'.cell? ⟨w.heap.size, 10, none⟩ = some (.int .i64 s.c.fuel) ∧ w'.cell? ⟨w.heap.size, 11, none⟩ = some (.int .i64 s.c.calls) ∧ w'.cell? ⟨w.heap.size, 12, none⟩ = some (.slice r.cs.1 s.thr.length r.cs.2) ∧ w'.cell? ⟨w.heap.size, 13, none⟩ = some (.slice r.is.1 s.thr.length r.is.2) ∧ w'.cell? ⟨w.heap.size, 14, none⟩ = some (.slice r.ms.1 s.thr.length r.ms.2) ∧ w'.cell? ⟨w.heap.size, 15, none⟩ = some (.slice r.os.1 s.ops.length r.os.2) ∧ w'.cell? ⟨w.heap.size, 16, none⟩ = some (.slice r.ns.1 s.nodes.length r.ns.2))
    (first | go_keep | exact (at17 K3).1 | exact (at17 K2).1)
    ((first | (go_at_call 46; refine (rword_any s.c _ _ HM.out).mono ?_; rintro e w2 ⟨rfl, hb2⟩; have K2 := A0.drew.below' hb2) | (go_at_call 136; refine (rwswap_any (s.wordAt n) _ _ _ (H.out.below ((below_twice w _ _).drew.trans (hb2.mono (by simp; omega)))) HW.out.2 HW.out.1).mono ?_; rintro e w3 ⟨p', rfl, hr3, hb3, hf3⟩; have K3 := K2.below' hb3; have A3 := (A1.drew.below' hb2).below' hb3; obtain ⟨⟨z0, z1, z2, z3, z4, z5, z6, z7, z8, z9, z10, z11, z12, z13, z14, z15, z16⟩, zf, zl⟩ := at17 A3)))
  have hs2 := hb2.size
  simp at hs2
  have B3 : Below w.heap.size w w3 := ((below_twice w _ _).drew.trans (hb2.mono (by simp; omega))).trans (hb3.mono (by omega))
  clear z0 z1 z2 z3 z4 z5 z6 z7 z8 z9 z10 z11 z12 z13 z14 z15 z16 zf zl
  go_wp2_with fail
  exact bodyPost_ret (v := .tuple #[RV.val { r with w := p' } (s.swap (s.wordAt n) old x), .bool (s.swaps (s.wordAt n) old)]) (res_cell_tmp (fn := Tryz.f64) Tryz.results64 _ _ (w.heap.size + 1) _ _ rfl (put17 A3 _ _ _ _ _ _ _ _ _ _ _ _ _ _ _ _ _).1 Tryz.underlying45 rfl (by kernel_rfl)) rfl ⟨p', rfl, hr3.only (put17 A3 _ _ _ _ _ _ _ _ _ _ _ _ _ _ _ _ _).2 (fun b o hb _ => words_apart hr3 A3 zero17_no (by rw [swap_len]; exact HW.out.1) b o hb), B3.trans ((put17 A3 _ _ _ _ _ _ _ _ _ _ _ _ _ _ _ _ _).2.below (by have := B3.size; omega) fun i hi hn => by omega), hf3.mono (by omega)⟩

end Go.Proofs.YtccmjljlfgbicaaGreat

/- Contracts of the document's answer: a new walk; a reference laid. -/
namespace Go.Proofs.YtccmjljlfgbicaaGreat
open Go.ChangeShapes Go.WideShapes Go.ChangeAt Go.RowKit

theorem rv_noN (r : RV) (s : St) : ∀ x, Value.int .u64 x ∉ (r.cells s).toList := by
  intro x h
  simp at h

set_option maxRecDepth 100000 in
set_option maxHeartbeats 1000000 in
theorem rwset_any {r : RV} {s : St} (n x : Int) (w : World) (h : RefIn w r s) (hok : s.ok) :
    Calls Tryz.prog 67 #[r.val s, .int .i64 n, .int .u64 x] w (RefOut w r (fun v => v) (s.store (s.nextAt n) x)) := by
  have H := Lib.hid h
  have HM := Lib.hid hok.may
  have HW := Lib.hid (st_words hok)
  clear h hok
  have A0 := (At.new w 45 (r.cells s)).alloc (.cells zero17 45)
  have A1 := At.new1 w (.cells (r.cells s) 45) 45 zero17
  go_enter Tryz.func67, Tryz.ntmps67
  go_wp2_with fail
  go_region_with (first
      | (go_at_call 105; refine (rnext_any s.c _ _ HM.out).mono ?_; rintro e w2 ⟨rfl, hb2⟩; have K2 := A0.drew.below' hb2; obtain ⟨⟨a0, a1, a2, a3, a4, a5, a6, -, -, -, -, -, -, -, -, -, -⟩, af, al⟩ := at17 K2)
      | (go_at_call 140; refine (rstore_any (p := r.w) _ _ _ (H.out.words.below ((below_twice w _ _).drew.trans (hb2.mono (by simp; omega)))) HW.out.2).mono ?_; rintro e w3 ⟨ao, cap, rfl, hr3, hb3, hao⟩; have K3 := K2.below' hb3; obtain ⟨⟨b0, b1, b2, b3, b4, b5, b6, -, -, -, -, -, -, -, -, -, -⟩, bf, bl⟩ := at17 K3))
  all_goals
    have hs2 := hb2.size
    simp at hs2
    have B3 : Below w.heap.size w w3 := ((below_twice w _ _).drew.trans (hb2.mono (by simp; omega))).trans (hb3.mono (by omega))
    have Z3 := (A1.drew.below' hb2).below' hb3
    have A0' : At ((w3.setCell ⟨w.heap.size, 5, none⟩ (.slice ao (storeL s.words (atOr n s.c.nodes n) x).length cap)).setCell ⟨w.heap.size, 6, none⟩ (.int .i64 (tick s.words (atOr n s.c.nodes n) s.steps))) w.heap.size 45 (RV.cells { r with w := (ao, cap) } (s.store (s.nextAt n) x)) := (K3.set 5 _).set 6 _
    have A1' := (Z3.far (p := ⟨w.heap.size, 5, none⟩) (by simp) (.slice ao (storeL s.words (atOr n s.c.nodes n) x).length cap)).far (p := ⟨w.heap.size, 6, none⟩) (by simp) (.int .i64 (tick s.words (atOr n s.c.nodes n) s.steps))
    have O1 := ((Only.refl (fun i => i = w.heap.size) w3).set (p := ⟨w.heap.size, 5, none⟩) (.inl rfl) (.slice ao (storeL s.words (atOr n s.c.nodes n) x).length cap)).set (p := ⟨w.heap.size, 6, none⟩) (.inl rfl) (.int .i64 (tick s.words (atOr n s.c.nodes n) s.steps))
    have hr4 := hr3.only O1 (fun b o hb _ => words_apart hr3 K3 (rv_noN r s) (by have := store_len s (s.nextAt n) x; have := HW.out.1; show 0 < (s.store (s.nextAt n) x).words.length; omega) b o hb)
    have B4 := B3.trans (O1.below (by have := B3.size; omega) fun i hi hn => by omega)
    clear b0 b1 b2 b3 b4 b5 b6 bf bl a0 a1 a2 a3 a4 a5 a6 af al K2 K3 hr3
    generalize (w3.setCell ⟨w.heap.size, 5, none⟩ (.slice ao (storeL s.words (atOr n s.c.nodes n) x).length cap)).setCell ⟨w.heap.size, 6, none⟩ (.int .i64 (tick s.words (atOr n s.c.nodes n) s.steps)) = w4 at *
    go_upto_region 2 with fail
    refine wp_region_lit (l := [_, _]) ?_
    refine wpl_load rfl 45 (.tmp 3) rfl w.heap.size rfl (RV.cells { r with w := (ao, cap) } (s.store (s.nextAt n) x)) _ A0' Tryz.underlying45 rfl (by kernel_rfl) ?_
    refine wpl_store rfl 45 (.tmp 6) (.tmp 16) rfl (w.heap.size + 1) rfl (RV.cells { r with w := (ao, cap) } (s.store (s.nextAt n) x)) zero17 rfl A1' (by kernel_rfl) rfl (rv_one _ _) ?_
    intro w5 A5 O5
    refine wpList_nil ?_
    have hr5 := hr4.only O5 (fun b o hb _ => words_apart hr4 A1' zero17_no (by have := store_len s (s.nextAt n) x; have := HW.out.1; show 0 < (s.store (s.nextAt n) x).words.length; omega) b o hb)
    have B5 := B4.trans (O5.below (by have := B4.size; omega) fun i hi hn => by omega)
    clear A0' A1' O5 O1 hr4
    go_wp2_with fail
    exact bodyPost_ret (v := RV.val { r with w := (ao, cap) } (s.store (s.nextAt n) x)) (res_cell (fn := Tryz.f67) Tryz.results67 _ _ (w.heap.size + 1) _ _ rfl A5 Tryz.underlying45 rfl (by kernel_rfl)) rfl ⟨(ao, cap), rfl, hr5, B5, Fr.mono (show Fr _ r.w.1 ao from hao) (by omega)⟩


set_option maxRecDepth 100000 in
set_option maxHeartbeats 1000000 in
theorem rwalknew_any (key mode : Int) (w : World) :
    Calls Tryz.prog 28 #[.int .u64 key, .int .i64 mode] w fun e w' => e = .returned (.agg #[.int .u64 key, .int .i64 mode, .int .i64 0, .int .i64 0, .int .i64 0, .int .u64 0, .int .i64 (-1), .int .i64 (-1), .bool false, .bool false]) ∧ Below w.heap.size w w' := by
  go_enter Tryz.func28, Tryz.ntmps28
  go_wp2
  exact bodyPost_ret (v := .agg #[.int .u64 key, .int .i64 mode, .int .i64 0, .int .i64 0, .int .i64 0, .int .u64 0, .int .i64 (-1), .int .i64 (-1), .bool false, .bool false]) (by simp [results, Tryz.results28, go_sem]) rfl ⟨rfl, (Below.refl _ _).alloc (Nat.le_refl _) _⟩

end Go.Proofs.YtccmjljlfgbicaaGreat

