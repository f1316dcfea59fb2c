/- Three scans of a laid scene, one after the other: they begin, end, and tell what they are to. Plain. -/
import Derived.Test.YtccmjljlfgbicaaZL1
import Derived.Test.YtccmjljlfgbicaaRegL
import Derived.Test.YtccmjljlfgbicaaScene
import Derived.Test.YtccmjljlfgbicaaRegQ
import Derived.Test.YtccmjljlfgbicaaZA1
import Derived.Test.YtccmjljlfgbicaaZO1
import Derived.WalkKit
import Derived.ProofKit
import Derived.OpenShut
namespace Go.Proofs.Ytccmjljlfgbicaa
open Go.ChangeShapes Go.WideShapes Go.ChangeAt Go.RowKit

theorem tick_le (l : List Int) (p n : Int) (h : 0 ≤ n ∧ n ≤ 100000) : 0 ≤ tick l p n ∧ tick l p n ≤ n + 1 := by
  unfold tick
  split
  · have := wrap64_in (n := n + 1) (by omega) (by omega)
    omega
  · omega
theorem layItem_steps (p : St × Int × Int) (i : GItem) (h : 0 ≤ p.1.steps ∧ p.1.steps ≤ 1000) : 0 ≤ (layItem p i).1.steps ∧ (layItem p i).1.steps ≤ p.1.steps + 3 := by
  have h1 : ∀ (s : St) (op : Int), 0 ≤ s.steps ∧ s.steps ≤ 1000 → 0 ≤ (s.layOp op i).1.steps ∧ (s.layOp op i).1.steps ≤ s.steps + 1 := by
    intro s op hs
    unfold St.layOp
    split
    · exact ⟨hs.1, by show s.steps ≤ s.steps + 1; omega⟩
    · have hb := (begin_same s 0 ⟨1, i.key, i.val, 0⟩).2.2.2
      have := tick_le (s.begin 0 ⟨1, i.key, i.val, 0⟩).1.words ((s.begin 0 ⟨1, i.key, i.val, 0⟩).1.wordAt (s.begin 0 ⟨1, i.key, i.val, 0⟩).2.1) (s.begin 0 ⟨1, i.key, i.val, 0⟩).1.steps (by rw [hb]; omega)
      rw [hb] at this
      show 0 ≤ tick _ _ _ ∧ tick _ _ _ ≤ _
      rw [hb]; exact this
  have h2 : ∀ (s : St) (at_ op : Int), 0 ≤ s.steps ∧ s.steps ≤ 1001 → 0 ≤ (s.layNode at_ op i.mark).1.steps ∧ (s.layNode at_ op i.mark).1.steps ≤ s.steps + 2 := by
    intro s at_ op hs
    have hm := (make_same s 0 op).2.2.2
    have a := tick_le (s.make 0 op).1.words ((s.make 0 op).1.nextAt at_) (s.make 0 op).1.steps (by rw [hm]; omega)
    have b := fun l p => tick_le l p (tick (s.make 0 op).1.words ((s.make 0 op).1.nextAt at_) (s.make 0 op).1.steps) (by rw [hm] at a ⊢; omega)
    unfold St.layNode St.store
    dsimp only
    have b' := b (storeL (s.make 0 op).1.words ((s.make 0 op).1.nextAt at_) (refOf (s.make 0 op).2.1 ((s.make 0 op).1.peek at_ % 2 == 1))) (St.nextAt { (s.make 0 op).1 with words := storeL (s.make 0 op).1.words ((s.make 0 op).1.nextAt at_) (refOf (s.make 0 op).2.1 ((s.make 0 op).1.peek at_ % 2 == 1)), steps := tick (s.make 0 op).1.words ((s.make 0 op).1.nextAt at_) (s.make 0 op).1.steps } (s.make 0 op).2.1)
    have a' := a.2
    have b2 := b'.2
    refine ⟨b'.1, ?_⟩
    rw [hm] at a'
    exact Int.le_trans b2 (by omega)
  unfold layItem
  have a := h1 p.1 p.2.2 h
  have b := h2 (p.1.layOp p.2.2 i).1 p.2.1 (p.1.layOp p.2.2 i).2 (by omega)
  exact ⟨b.1, by
    have := b.2
    show ((p.1.layOp p.2.2 i).1.layNode p.2.1 (p.1.layOp p.2.2 i).2 i.mark).1.steps ≤ _
    omega⟩
theorem layItems_steps : ∀ (l : List GItem) (p : St × Int × Int), 0 ≤ p.1.steps → p.1.steps + 3 * l.length ≤ 1000 → 0 ≤ (l.foldl layItem p).1.steps ∧ (l.foldl layItem p).1.steps ≤ p.1.steps + 3 * l.length
  | [], p, h, _ => ⟨h, by simp⟩
  | i :: l, p, h, h2 => by
    simp only [List.length_cons] at h2
    have a := layItem_steps p i ⟨h, by omega⟩
    have b := layItems_steps l (layItem p i) a.1 (by omega)
    simp only [List.foldl_cons, List.length_cons]
    omega
theorem lay_steps {x : Scene} (hl : x.items.length ≤ 12) : 0 ≤ x.lay.steps ∧ x.lay.steps ≤ 36 := by
  have hc : ∀ (l : List GCall) (s : St), (s.layCalls l).steps = s.steps := by
    intro l
    induction l with
    | nil => intro s; rfl
    | cons c l ih => intro s; exact (ih (s.begin 2 c).1).trans (begin_same s 2 c).2.2.2
  have h0 : (St.new x.conf).steps = 0 := rfl
  have a := layItems_steps x.sorted (St.new x.conf, 1, 0) (Int.le_refl 0) (by show (0 : Int) + _ ≤ _; rw [sorted_len]; omega)
  rw [sorted_len] at a
  have e : x.lay.steps = (x.sorted.foldl layItem (St.new x.conf, 1, 0)).1.steps := hc x.calls _
  rw [e]
  have a2 : (x.sorted.foldl layItem (St.new x.conf, 1, 0)).1.steps ≤ 0 + 3 * x.items.length := a.2
  exact ⟨a.1, by omega⟩

/-- A scan may begin so many times yet. -/
structure Free1 (s : St) (a : Int) : Prop where
  calls : s.c.calls = 16
  thr : ∃ u : Thr, s.thr[1]? = some u ∧ u.calls = a
theorem begin_thr1 (s : St) (c : GCall) : (s.begin 2 c).1.thr[1]? = s.thr[1]? := by
  unfold St.begin
  split; · rfl
  split; · rfl
  split; · rfl
  split
  · exact List.getElem?_set_ne (by decide)
  · exact List.getElem?_set_ne (by decide)
theorem lay_free1 {x : Scene} (hx : x.fits) (hlen : x.items.length ≤ 12) : Free1 x.lay 0 := by
  obtain ⟨op, o, h, ho, hK⟩ := lay_K hx hlen
  have hc : ∀ (l : List GCall) (s : St), (s.layCalls l).thr[1]? = s.thr[1]? ∧ (s.layCalls l).c = s.c := by
    intro l
    induction l with
    | nil => intro s; exact ⟨rfl, rfl⟩
    | cons c l ih => intro s; exact ⟨(ih (s.begin 2 c).1).1.trans (begin_thr1 s c), (ih (s.begin 2 c).1).2.trans (begin_same s 2 c).1⟩
  obtain ⟨a, b⟩ := hc x.calls ((St.new x.conf).layItems x.sorted).1
  refine ⟨?_, ⟨⟨0, 0, 0⟩, ?_, rfl⟩⟩
  · show (St.layCalls _ _).c.calls = 16
    rw [b, h.c]
  · show (St.layCalls _ _).thr[1]? = _
    rw [a, h.thr]; rfl
theorem scan_begins {s : St} {a : Int} (h : Free1 s a) (ha : a < 16) (c : GCall) (hk : c.kind = 4) : (s.scnNew 1 c).2 = Scn.start c s.c.buckets ∧ Free1 (s.scnNew 1 c).1 (a + 1) ∧ (s.scnNew 1 c).1.steps = s.steps := by
  obtain ⟨hc, u, hu, rfl⟩ := h
  have ht : thrAt s.thr 1 = some u := by unfold thrAt; rw [if_pos (by decide)]; exact hu
  have hb : s.begin 1 c = ({ s with thr := s.thr.set 1 { u with calls := u.calls + 1, inserts := u.inserts }, ops := s.ops ++ [(1 * s.c.calls + u.calls, c)] }, 1 * s.c.calls + u.calls, 0) := by
    unfold St.begin
    rw [ht]
    simp only
    rw [if_neg (by omega), if_neg (by omega), if_neg (by omega), if_neg (by omega)]
    rfl
  unfold St.scnNew
  rw [if_pos hk, hb]
  rw [if_pos rfl]
  refine ⟨rfl, ⟨hc, ⟨{ u with calls := u.calls + 1, inserts := u.inserts }, ?_, rfl⟩⟩, rfl⟩
  show (s.thr.set 1 _)[1]? = _
  have hl : 1 < s.thr.length := (List.getElem?_eq_some_iff.1 hu).1
  rw [List.getElem?_set_self hl]

/-- What is known of a world between scans. -/
structure Calm (s0 : St) (j : Nat) (a : Int) (m : Int) (s : St) : Prop where
  alike : Alike s0 s
  laid : LaidV s.vw j
  free : Free1 s a
  steps : 0 ≤ s.steps ∧ s.steps ≤ m
theorem calm_scan {s0 s : St} {j : Nat} {a m : Int} (h0 : LaidV s0.vw j) (hj : j ≤ 12) (h : Calm s0 j a m s) (ha : a < 16) (hm : m ≤ 1000) {c : GCall} (hk : c.kind = 4) :
    Calm s0 j (a + 1) (m + (1 + 2 * j)) (scnIter 300 (s.scnNew 1 c)).1 ∧ Ended (scnIter 300 (s.scnNew 1 c)).2 ((s0.scnL c 0 j []).take c.limit.toNat) ∧ (scnIter 300 (s.scnNew 1 c)).1.steps ≤ s.steps + (1 + 2 * j) := by
  obtain ⟨e1, e2, e3⟩ := scan_begins h.free ha c hk
  have hl1 : LaidV (s.scnNew 1 c).1.vw j := laidV_scnNew h.laid 1 c
  have ha1 : Alike s0 (s.scnNew 1 c).1 := h.alike.trans (alike_new s 1 c)
  have hst := h.steps
  obtain ⟨k, n', y, k1, k2, k3, k4⟩ := scn_all (c := c) hl1 (by omega) (n := s.steps) (by omega)
  have hb1 : (s.scnNew 1 c).1.c.buckets = s.c.buckets := by rw [(alike_new s 1 c).c]
  have hp : s.scnNew 1 c = ((s.scnNew 1 c).1.at s.steps, Scn.start c (s.scnNew 1 c).1.c.buckets) := by
    refine Prod.ext ?_ (by rw [hb1]; exact e1)
    show (s.scnNew 1 c).1 = { (s.scnNew 1 c).1 with steps := s.steps }
    rw [← e3]
  have hfin : scnIter 300 (s.scnNew 1 c) = ((s.scnNew 1 c).1.at n', y) := by
    rw [hp, show 300 = k + (300 - k) by omega]
    exact scnIter_done k2 k4.done _
  rw [hfin]
  rw [scnL_alike ha1 h0 c j 0 [] (by omega)] at k4
  refine ⟨⟨⟨ha1.c, ha1.words, ha1.nodes, ha1.call⟩, hl1, ⟨e2.calls, e2.thr⟩, ?_⟩, k4, ?_⟩
  · show 0 ≤ n' ∧ n' ≤ _
    omega
  · show n' ≤ _
    omega
/-- Two ranges beside one another. -/
theorem parts_law {x : Scene} (hx : x.fits) (hl : x.items.length ≤ 12) {lo mid hi : Int} (h1 : lo ≤ mid) (h2 : mid ≤ hi) :
    let p1 := scnIter 300 (x.lay.scnNew 1 ⟨4, lo, mid, 99⟩)
    let p2 := scnIter 300 (p1.1.scnNew 1 ⟨4, mid + 1, hi, 99⟩)
    let p3 := scnIter 300 (p2.1.scnNew 1 ⟨4, lo, hi, 99⟩)
    p1.2.done = true ∧ p2.2.done = true ∧ p3.2.done = true ∧ p3.2.pairs = p1.2.pairs ++ p2.2.pairs ∧ p1.2.pairs.length ≤ 12 ∧ p2.2.pairs.length ≤ 12 := by
  have hL := (lay_laidV hx hl).1
  have c0 : Calm x.lay x.items.length 0 36 x.lay := ⟨Alike.refl _, hL, lay_free1 hx hl, lay_steps hl⟩
  obtain ⟨c1, d1, _⟩ := calm_scan hL hl c0 (by decide) (by decide) (c := ⟨4, lo, mid, 99⟩) rfl
  obtain ⟨c2, d2, _⟩ := calm_scan hL hl c1 (by decide) (by omega) (c := ⟨4, mid + 1, hi, 99⟩) rfl
  obtain ⟨c3, d3, _⟩ := calm_scan hL hl c2 (by decide) (by omega) (c := ⟨4, lo, hi, 99⟩) rfl
  have tk : ∀ c : GCall, c.limit = 99 → (x.lay.scnL c 0 x.items.length []).take c.limit.toNat = x.lay.scnL c 0 x.items.length [] := by
    intro c hc
    refine List.take_of_length_le ?_
    have := scnL_len x.lay c x.items.length 0 []
    rw [hc]
    simp at this
    have : (99 : Int).toNat = 99 := rfl
    omega
  have ln : ∀ c : GCall, (x.lay.scnL c 0 x.items.length []).length ≤ 12 := by
    intro c
    have := scnL_len x.lay c x.items.length 0 []
    simp at this
    omega
  rw [tk _ rfl] at d1 d2 d3
  refine ⟨d1.done, d2.done, d3.done, ?_, by rw [d1.pairs]; exact ln _, by rw [d2.pairs]; exact ln _⟩
  rw [d1.pairs, d2.pairs, d3.pairs]
  exact parts_all hL h1 h2 x.items.length 0 [] (by omega) (fun q hq => by cases hq)
end Go.Proofs.Ytccmjljlfgbicaa

/- A list of pairs put behind one's own row; a region of two such. -/
namespace Go.Proofs.Ytccmjljlfgbicaa
open Go.ChangeShapes Go.WideShapes Go.ChangeAt Go.RowKit

theorem pairinfoA : (Try.prog.info? 48).map (fun i => (i.zero, i.size, i.bytes)) = some (some (.agg #[.int .u64 0, .int .u64 0]), 2, 16) := by kernel_rfl
/-- A row that one owns grew. -/
theorem grownRow {w w0 w1 w2 : World} {e : TypeId} {size n : Nat} {v : Value} {xs : List Value} (h : Below w.heap.size w w1) (R : w0.ownsRow w.heap.size e size v n xs) (hg : w1.grownBy w2 v.ownBlock) : Below w.heap.size w w2 := by
  rcases R.2 with ⟨rfl, _⟩ | ⟨g, cap, cur, rfl, h2, _⟩
  · exact ⟨hg.os.trans h.os, hg.tape.trans h.tape, hg.output.trans h.output, Nat.le_trans h.size hg.size, fun i hi => (hg.block i (by have := h.size; omega) (by intro e; cases e)).trans (h.block i hi)⟩
  · exact grown_below h hg h2 h.size
theorem append_none {P : Program} (w : World) (base : Nat) (t ty e : TypeId) (i : TypeInfo) (size : Nat) (ht : P.underlying t = some (.slice e)) (hi : P.info? e = some i) (v : Value) (n : Nat) (xs : List Value) (hown : w.ownsRow base e size v n xs) (cap : Nat) :
    (Builtin.append_ #[t, t] ty #[v, .slice none 0 cap]).run P w = .ok v w := by
  rcases hown.2 with ⟨rfl, rfl⟩ | ⟨g, cp, cur, rfl, _, _, hnc, _⟩
  · simp [Builtin.append_, run_underlying ht, sizeOf, typeInfo, hi, Builtin.lenOf, Builtin.firstCells]
  · simp [Builtin.append_, run_underlying ht, sizeOf, typeInfo, hi, Builtin.lenOf, Builtin.firstCells, hnc, storeCells]
theorem wp_append_pairs {o : Oper} {a : Act} {w : World} {K : Act → World → Prop} {Q : Exit → Act → World → Prop} (s x : Operand) (ho : o.op = .call { callee := .builtin .append, args := #[s, x], argTypes := #[36, 36] })
    (base : Nat) (v : Value) (n : Nat) (xs : List Value) (hs : a.eval s = v) (hown : w.ownsRow base 48 2 v n xs) {N : Nat → Prop} {ao : Option Addr} {m cap : Nat} {l : List (Int × Int)} (hx : a.eval x = .slice ao m cap) (hp : PairsIn w N (.slice ao m cap) l) (h63 : n + m ≤ 1000) (hbase : base ≤ w.heap.size)
    (h : ∀ v' w', w'.ownsRow base 48 2 v' (n + m) (xs ++ pairsV l) → w.grownBy w' v.ownBlock → K (a.put o.dst v') w') : o.wp Try.prog a w K Q := by
  obtain ⟨i0, hi, hz0, hz1, hz2⟩ := info_parts pairinfoA
  rcases hp with ⟨rfl, ao', cap', e⟩ | ⟨b, off, c, e, h2, h3, h4, h5⟩
  · injection e with e1 e2 e3
    subst e1; subst e2; subst e3
    cases ao with
    | none =>
      have hr := append_none (P := Try.prog) w base 36 o.type 48 i0 2 Try.underlying36 hi v n xs hown cap
      unfold Oper.wp execOp
      simp only [ho, resolve, invoke, builtin, Sem.run_bind, Sem.run_pure, Result.andThen_ok, List.map_toArray, List.map_cons, List.map_nil, hs, hx, hr]
      exact h v w (by rw [show pairsV [] = [] from rfl, List.append_nil, Nat.add_zero]; exact hown) ⟨rfl, rfl, rfl, Nat.le_refl _, fun _ _ _ => rfl⟩
    | some ad =>
      refine wp_append_own (P := Try.prog) w s x 36 ho base 48 i0 (.agg #[.int .u64 0, .int .u64 0]) 2 16 Try.underlying36 hi hz0 hz1 hz2 rfl (by decide) v n xs hs hown ad 0 cap [] hx rfl (fun j u hu => by simp at hu) (fun u hu => by cases hu) (by unfold maxLen; omega) (by omega) hbase fun v' w' r1 r2 _ => ?_
      exact h v' w' r1 r2
  · injection e with e1 e2 e3
    subst e1; subst e2; subst e3
    refine wp_append_own (P := Try.prog) w s x 36 ho base 48 i0 (.agg #[.int .u64 0, .int .u64 0]) 2 16 Try.underlying36 hi hz0 hz1 hz2 rfl (by decide) v n xs hs hown ⟨b, off, none⟩ l.length cap (pairsV l) hx (pairsV_len l) (fun j u hu => by have := h5 j u hu; cases j <;> simpa [Addr.add] using this) (pairsV_one l) (by unfold maxLen; omega) (by omega) hbase fun v' w' r1 r2 _ => ?_
    exact h v' w' r1 r2

/-- What is kept in a region where a row is made (number 0), and two lists are put behind it (4, 8); number 9 takes it. -/
structure AppG (l m : List (Int × Int)) (F : Nat → Value → Prop) (W : World) (dn : Nat → Bool) (us : Nat → Value) (w : World) : Prop where
  below : Below W.heap.size W w
  pre : ∀ j, dn j = true → F j (us j)
  r0 : dn 0 = true → dn 4 = false → w.ownsRow W.heap.size 48 2 (us 0) 0 []
  r4 : dn 4 = true → dn 8 = false → w.ownsRow W.heap.size 48 2 (us 4) l.length (pairsV l)
  r8 : dn 8 = true → w.ownsRow W.heap.size 48 2 (us 8) (l.length + m.length) (pairsV l ++ pairsV m)
  r9 : dn 9 = true → us 9 = us 8
  o4 : dn 4 = true → dn 0 = true
  o8 : dn 8 = true → dn 4 = true
  o9 : dn 9 = true → dn 8 = true
section
variable {l m : List (Int × Int)} {F : Nat → Value → Prop} {W w w' : World} {dn : Nat → Bool} {us : Nat → Value}
theorem AppG.start (us : Nat → Value) : AppG l m F W (fun _ => false) us W.drew :=
  ⟨(Below.refl _ W).drew, fun _ e => (by cases e), fun e => (by cases e), fun e => (by cases e), fun e => (by cases e), fun e => (by cases e), fun e => (by cases e), fun e => (by cases e), fun e => (by cases e)⟩
theorem AppG.preU (h : AppG l m F W dn us w) {i : Nat} {v : Value} (hv : F i v) : ∀ j, updB dn i j = true → F j (updN us i v j) := fun j e => by
  by_cases q : j = i
  · subst q; rw [updN_eq]; exact hv
  · rw [updB_ne q] at e; rw [updN_ne q]; exact h.pre j e
theorem AppG.first (h : AppG l m F W dn us w) {i : Nat} (hi : i ≠ 0 ∧ i ≠ 4 ∧ i ≠ 8 ∧ i ≠ 9) {v : Value} (hv : F i v) : AppG l m F W (updB dn i) (updN us i v) w := by
  obtain ⟨h0, h4, h8, h9⟩ := hi
  refine ⟨h.below, h.preU hv, ?_, ?_, ?_, ?_, ?_, ?_, ?_⟩
  · rw [updB_ne h0.symm, updB_ne h4.symm, updN_ne h0.symm]; exact h.r0
  · rw [updB_ne h4.symm, updB_ne h8.symm, updN_ne h4.symm]; exact h.r4
  · rw [updB_ne h8.symm, updN_ne h8.symm]; exact h.r8
  · rw [updB_ne h9.symm, updN_ne h9.symm, updN_ne h8.symm]; exact h.r9
  · rw [updB_ne h4.symm, updB_ne h0.symm]; exact h.o4
  · rw [updB_ne h8.symm, updB_ne h4.symm]; exact h.o8
  · rw [updB_ne h9.symm, updB_ne h8.symm]; exact h.o9
theorem AppG.no (h : AppG l m F W dn us w) : (dn 0 = false → dn 4 = false) ∧ (dn 4 = false → dn 8 = false) ∧ (dn 8 = false → dn 9 = false) := by
  refine ⟨fun e => ?_, fun e => ?_, fun e => ?_⟩
  · cases q : dn 4 with
    | false => rfl
    | true => rw [h.o4 q] at e; cases e
  · cases q : dn 8 with
    | false => rfl
    | true => rw [h.o8 q] at e; cases e
  · cases q : dn 9 with
    | false => rfl
    | true => rw [h.o9 q] at e; cases e
theorem AppG.made (h : AppG l m F W dn us w) (hd : dn 0 = false) (hF : ∀ v, F 0 v) : AppG l m F W (updB dn 0) (updN us 0 (.slice (some ⟨w.heap.size, 0, none⟩) 0 0)) (w.alloc (.cells #[] 48)) := by
  obtain ⟨n4, n8, n9⟩ := h.no
  have h4 := n4 hd
  have h8 := n8 h4
  have h9 := n9 h8
  refine ⟨h.below.alloc h.below.size _, h.preU (hF _), ?_, ?_, ?_, ?_, ?_, ?_, ?_⟩
  · intro _ _
    rw [updN_eq]
    exact World.ownsRow_lit w #[] 0 h.below.size (by unfold maxLen; omega) rfl
  · intro e; rw [updB_ne (by decide), h4] at e; cases e
  · intro e; rw [updB_ne (by decide), h8] at e; cases e
  · intro e; rw [updB_ne (by decide), h9] at e; cases e
  · intro _; exact updB_eq
  · intro e; rw [updB_ne (by decide), h8] at e; cases e
  · intro e; rw [updB_ne (by decide), h9] at e; cases e
theorem AppG.app1 (h : AppG l m F W dn us w) (hd : dn 4 = false) (hF : ∀ v, F 4 v) {v : Value} (hr : w'.ownsRow W.heap.size 48 2 v l.length (pairsV l)) (hg : w.grownBy w' (us 0).ownBlock) (d0 : dn 0 = true) : AppG l m F W (updB dn 4) (updN us 4 v) w' := by
  obtain ⟨n4, n8, n9⟩ := h.no
  have h8 := n8 hd
  have h9 := n9 h8
  refine ⟨grownRow h.below (h.r0 d0 hd) hg, h.preU (hF _), ?_, ?_, ?_, ?_, ?_, ?_, ?_⟩
  · intro _ e; rw [updB_eq] at e; cases e
  · intro _ _; rw [updN_eq]; exact hr
  · intro e; rw [updB_ne (by decide), h8] at e; cases e
  · intro e; rw [updB_ne (by decide), h9] at e; cases e
  · intro _; rw [updB_ne (by decide)]; exact d0
  · intro e; rw [updB_ne (by decide), h8] at e; cases e
  · intro e; rw [updB_ne (by decide), h9] at e; cases e
theorem AppG.app2 (h : AppG l m F W dn us w) (hd : dn 8 = false) (hF : ∀ v, F 8 v) {v : Value} (hr : w'.ownsRow W.heap.size 48 2 v (l.length + m.length) (pairsV l ++ pairsV m)) (hg : w.grownBy w' (us 4).ownBlock) (d4 : dn 4 = true) : AppG l m F W (updB dn 8) (updN us 8 v) w' := by
  obtain ⟨n4, n8, n9⟩ := h.no
  have h9 := n9 hd
  refine ⟨grownRow h.below (h.r4 d4 hd) hg, h.preU (hF _), ?_, ?_, ?_, ?_, ?_, ?_, ?_⟩
  · intro _ e; rw [updB_ne (by decide), d4] at e; cases e
  · intro _ e; rw [updB_eq] at e; cases e
  · intro _; rw [updN_eq]; exact hr
  · intro e; rw [updB_ne (by decide), h9] at e; cases e
  · intro _; rw [updB_ne (by decide)]; exact h.o4 d4
  · intro _; rw [updB_ne (by decide)]; exact d4
  · intro e; rw [updB_ne (by decide), h9] at e; cases e
theorem AppG.last (h : AppG l m F W dn us w) (hF : ∀ v, F 9 v) (d8 : dn 8 = true) : AppG l m F W (updB dn 9) (updN us 9 (us 8)) w := by
  refine ⟨h.below, h.preU (hF _), ?_, ?_, ?_, ?_, ?_, ?_, ?_⟩
  · rw [updB_ne (by decide), updB_ne (by decide), updN_ne (by decide)]; exact h.r0
  · rw [updB_ne (by decide), updB_ne (by decide), updN_ne (by decide)]; exact h.r4
  · rw [updB_ne (by decide), updN_ne (by decide)]; exact h.r8
  · intro _; rw [updN_eq, updN_ne (by decide)]
  · rw [updB_ne (by decide), updB_ne (by decide)]; exact h.o4
  · rw [updB_ne (by decide), updB_ne (by decide)]; exact h.o8
  · intro _; rw [updB_ne (by decide)]; exact d8
end
end Go.Proofs.Ytccmjljlfgbicaa

/- Contract of corrieref09.Same. Printed by same09.py out of Same.in. -/
namespace Go.Proofs.Ytccmjljlfgbicaa
open Go.ChangeShapes Go.WideShapes Go.ChangeAt Go.RowKit

theorem take_same {α : Type} {l m : List α} {i : Nat} {p : α} (h : l.take i = m.take i) (hl : l[i]? = some p) (hm : m[i]? = some p) : l.take (i + 1) = m.take (i + 1) := by
  rw [List.take_add_one, List.take_add_one, h, hl, hm]

set_option maxRecDepth 100000 in
set_option maxHeartbeats 4000000 in
theorem same09_any {l m : List (Int × Int)} {N M : Nat → Prop} {v u : Value} (w : World) (hp : PairsIn w N v l) (hq : PairsIn w M u m) (hl : l.length ≤ 100000) :
    Calls Try.prog 15 #[v, u] w fun e w' => e = .returned (.bool (decide (l = m))) ∧ Below w.heap.size w w' := by
  obtain ⟨ao, cap, rfl⟩ := hp.form
  obtain ⟨bo, cap2, rfl⟩ := hq.form
  have HP := Lib.hid hp
  have HQ := Lib.hid hq
  clear hp hq
  by_cases hlen : l.length = m.length
  · have HL := Lib.hid hlen
    rw [← hlen]
    obtain ⟨n, hn⟩ : ∃ n, n = l.length := ⟨_, rfl⟩
    have HN := Lib.hid hn
    rw [← hn] at hl ⊢
    clear hlen hn
    go_enter Try.func15, Try.ntmps15
    go_wp2_with fail
    go_loopg [5] n (fun gg v5 wr => ∃ i : Nat, v5 = .int .i64 i ∧ i + gg = n ∧ l.take i = m.take i ∧ Below w.heap.size w wr)
    case atStart => exact ⟨0, rfl, by omega, rfl, Below.refl _ _⟩
    case round =>
      obtain ⟨i, rfl, hi, ht, hb⟩ := hrel
      have HT := Lib.hid ht
      clear ht
      by_cases hlt : i < n
      · have hlt1 : i < l.length := by rw [← HN.out]; exact hlt
        have hlt2 : i < m.length := by rw [← HL.out]; exact hlt1
        obtain ⟨p, hpi⟩ : ∃ p, l[i]? = some p := ⟨_, List.getElem?_eq_getElem hlt1⟩
        obtain ⟨q, hqi⟩ : ∃ q, m[i]? = some q := ⟨_, List.getElem?_eq_getElem hlt2⟩
        obtain ⟨b1, o1, rfl, _, c0, c1⟩ := (HP.out.below hb).at_ hpi
        obtain ⟨b2, o2, rfl, _, d0, d1⟩ := (HQ.out.below hb).at_ hqi
        have HPI := Lib.hid hpi
        have HQI := Lib.hid hqi
        clear hpi hqi hlt1 hlt2
        go_wp2_with fail
        refine wp_region_J (l := [_, _, _, _, _, _, _, _, _]) (QG (fun j v => match j with | 0 => v = .slice (some ⟨b1, o1, none⟩) n cap | 1 => v = .int .i64 i | 2 => v = .pointer (some ⟨b1, o1 + i * 2, none⟩) | 3 => v = .agg #[.int .u64 p.1, .int .u64 p.2] | 4 => v = .slice (some ⟨b2, o2, none⟩) n cap2 | 5 => v = .int .i64 i | 6 => v = .pointer (some ⟨b2, o2 + i * 2, none⟩) | 7 => v = .agg #[.int .u64 q.1, .int .u64 q.2] | 8 => v = .bool (!decide (p = q)) | _ => True) wr) (by kernel_rfl) (by kernel_rfl) (fun us => QG.start us) ⟨?_, ?_, ?_, ?_, ?_, ?_, ?_, ?_, ?_, trivial⟩ ?_
        · intro dn us w6 A hev hy hG hdn hdep K hK
          have e0 : A.eval (.tmp 0) = .slice (some ⟨b1, o1, none⟩) n cap := by rw [hev]; rfl
          rw [if_pos (by rfl)]
          unfold Oper.wp execOp
          generalize A.eval = ev at e0 ⊢
          go_simp
          exact hK _ _ (hG.first (by first | rfl | (simp; done) | (simp; omega) | (simp; assumption)))
        · intro dn us w6 A hev hy hG hdn hdep K hK
          have e0 : A.eval (.tmp 5) = .int .i64 i := by rw [hev]; rfl
          rw [if_pos (by rfl)]
          unfold Oper.wp execOp
          generalize A.eval = ev at e0 ⊢
          go_simp
          exact hK _ _ (hG.first (by first | rfl | (simp; done) | (simp; omega) | (simp; assumption)))
        · intro dn us w6 A hev hy hG hdn hdep K hK
          have d0 : dn 0 = true := allD_mem hdep (by decide)
          have d1 : dn 1 = true := allD_mem hdep (by decide)
          have e0 : A.eval (.tmp 17) = .slice (some ⟨b1, o1, none⟩) n cap := by rw [hev]; exact hG.pre 0 d0
          have e1 : A.eval (.tmp 18) = .int .i64 i := by rw [hev]; exact hG.pre 1 d1
          rw [if_pos (by rfl)]
          unfold Oper.wp execOp
          generalize A.eval = ev at e0 e1 ⊢
          go_simp
          exact hK _ _ (hG.first (by first | rfl | (simp; done) | (simp; omega) | (simp; assumption)))
        · intro dn us w6 A hev hy hG hdn hdep K hK
          have d2 : dn 2 = true := allD_mem hdep (by decide)
          have e0 : A.eval (.tmp 19) = .pointer (some ⟨b1, o1 + i * 2, none⟩) := by rw [hev]; exact hG.pre 2 d2
          have zc0 : w6.cell? ⟨b1, o1 + i * 2, none⟩ = some (.int .u64 p.1) := by rw [hG.below.cell (World.block_lt_of_cell? _ _ c0)]; exact c0
          have zc1 : w6.cell? ⟨b1, o1 + i * 2 + 1, none⟩ = some (.int .u64 p.2) := by rw [hG.below.cell (World.block_lt_of_cell? _ _ c1)]; exact c1
          rw [if_pos (by rfl)]
          unfold Oper.wp execOp
          generalize A.eval = ev at e0 ⊢
          go_simp
          exact hK _ _ (hG.first (by first | rfl | (simp; done) | (simp; omega) | (simp; assumption)))
        · intro dn us w6 A hev hy hG hdn hdep K hK
          have e0 : A.eval (.tmp 1) = .slice (some ⟨b2, o2, none⟩) n cap2 := by rw [hev]; rfl
          rw [if_pos (by rfl)]
          unfold Oper.wp execOp
          generalize A.eval = ev at e0 ⊢
          go_simp
          exact hK _ _ (hG.first (by first | rfl | (simp; done) | (simp; omega) | (simp; assumption)))
        · intro dn us w6 A hev hy hG hdn hdep K hK
          have e0 : A.eval (.tmp 5) = .int .i64 i := by rw [hev]; rfl
          rw [if_pos (by rfl)]
          unfold Oper.wp execOp
          generalize A.eval = ev at e0 ⊢
          go_simp
          exact hK _ _ (hG.first (by first | rfl | (simp; done) | (simp; omega) | (simp; assumption)))
        · intro dn us w6 A hev hy hG hdn hdep K hK
          have d4 : dn 4 = true := allD_mem hdep (by decide)
          have d5 : dn 5 = true := allD_mem hdep (by decide)
          have e0 : A.eval (.tmp 21) = .slice (some ⟨b2, o2, none⟩) n cap2 := by rw [hev]; exact hG.pre 4 d4
          have e1 : A.eval (.tmp 22) = .int .i64 i := by rw [hev]; exact hG.pre 5 d5
          rw [if_pos (by rfl)]
          unfold Oper.wp execOp
          generalize A.eval = ev at e0 e1 ⊢
          go_simp
          exact hK _ _ (hG.first (by first | rfl | (simp; done) | (simp; omega) | (simp; assumption)))
        · intro dn us w6 A hev hy hG hdn hdep K hK
          have d6 : dn 6 = true := allD_mem hdep (by decide)
          have e0 : A.eval (.tmp 23) = .pointer (some ⟨b2, o2 + i * 2, none⟩) := by rw [hev]; exact hG.pre 6 d6
          have zd0 : w6.cell? ⟨b2, o2 + i * 2, none⟩ = some (.int .u64 q.1) := by rw [hG.below.cell (World.block_lt_of_cell? _ _ d0)]; exact d0
          have zd1 : w6.cell? ⟨b2, o2 + i * 2 + 1, none⟩ = some (.int .u64 q.2) := by rw [hG.below.cell (World.block_lt_of_cell? _ _ d1)]; exact d1
          rw [if_pos (by rfl)]
          unfold Oper.wp execOp
          generalize A.eval = ev at e0 ⊢
          go_simp
          exact hK _ _ (hG.first (by first | rfl | (simp; done) | (simp; omega) | (simp; assumption)))
        · intro dn us w6 A hev hy hG hdn hdep K hK
          have d3 : dn 3 = true := allD_mem hdep (by decide)
          have d7 : dn 7 = true := allD_mem hdep (by decide)
          have e0 : A.eval (.tmp 20) = .agg #[.int .u64 p.1, .int .u64 p.2] := by rw [hev]; exact hG.pre 3 d3
          have e1 : A.eval (.tmp 24) = .agg #[.int .u64 q.1, .int .u64 q.2] := by rw [hev]; exact hG.pre 7 d7
          rw [if_pos (by rfl)]
          unfold Oper.wp execOp
          generalize A.eval = ev at e0 e1 ⊢
          go_simp
          by_cases f1 : p.1 = q.1
          · rw [if_pos f1]
            by_cases f2 : p.2 = q.2
            · rw [if_pos f2]
              exact hK (.bool false) _ (hG.first (by show Value.bool false = .bool (!decide (p = q)); rw [decide_eq_true (Prod.ext f1 f2)]; rfl))
            · rw [if_neg f2]
              exact hK (.bool true) _ (hG.first (by show Value.bool true = .bool (!decide (p = q)); rw [decide_eq_false (fun h => f2 (by rw [h]))]; rfl))
          · rw [if_neg f1]
            exact hK (.bool true) _ (hG.first (by show Value.bool true = .bool (!decide (p = q)); rw [decide_eq_false (fun h => f1 (by rw [h]))]; rfl))
        intro dn us wA hG hall
        have u8 : us 8 = .bool (!decide (p = q)) := hG.pre 8 (hall 8 (by decide))
        have DA := hG.below
        by_cases hpq : p = q
        · rw [decide_eq_true hpq, Bool.not_true] at u8
          simp only [fillA, fillT, Nat.reduceAdd, List.setIfInBounds_toArray, List.set_cons_zero, List.set_cons_succ, u8]
          clear hG hall u8
          go_wp2_with fail
          go_roundg (n - (i + 1))
          case measure => omega
          case rel => exact ⟨i + 1, rfl, by omega, take_same HT.out HPI.out (by rw [hpq]; exact HQI.out), hb.trans (DA.mono hb.size)⟩
        · rw [decide_eq_false hpq, Bool.not_false] at u8
          simp only [fillA, fillT, Nat.reduceAdd, List.setIfInBounds_toArray, List.set_cons_zero, List.set_cons_succ, u8]
          clear hG hall u8
          go_wp2_with fail
          go_ret
          refine ⟨?_, hb.trans (DA.mono hb.size)⟩
          rw [decide_eq_false fun e => hpq ?_]
          · rfl
          · have h1 := HPI.out
            rw [e, HQI.out] at h1
            exact (Option.some.inj h1).symm
      · have e : i = n := by omega
        go_wp2_with fail
        go_ret
        refine ⟨?_, hb⟩
        have e2 : l = m := by
          have h := HT.out
          rwa [e, HN.out, List.take_length, HL.out, List.take_length] at h
        rw [decide_eq_true e2]
        rfl
  · have hne : ((l.length : Int) != (m.length : Int)) = true := by rw [bne_iff_ne]; omega
    go_enter Try.func15, Try.ntmps15
    go_wp2_with fail
    go_ret
    exact ⟨by rw [decide_eq_false (fun e => hlen (by rw [e]))]; rfl, Below.refl _ _⟩
end Go.Proofs.Ytccmjljlfgbicaa

/- ScanParts, the walk. Printed by parw.py out of ParW.in. -/
namespace Go.Proofs.Ytccmjljlfgbicaa
open Go.ChangeShapes Go.WideShapes Go.ChangeAt Go.RowKit

set_option maxRecDepth 100000 in
set_option maxHeartbeats 4000000 in
theorem parts_walk {x : Scene} {v : Value} {ia ca : Option Addr} {ic cc : Nat} (a b c : Int) (w : World) (hx : x.fits) (hS : SceneAt w v x ia ca ic cc) (ha : 0 ≤ a ∧ a ≤ 255) (hb : 0 ≤ b ∧ b ≤ 255) (hc : 0 ≤ c ∧ c ≤ 255) :
    Calls Try.prog 4 #[v, .agg #[.int .u8 a, .int .u8 b, .int .u8 c]] w fun e w' => e = .returned (.bool true) ∧ Below w.heap.size w w' := by
  have HS := Lib.hid hS
  obtain ⟨rfl, _, _⟩ := hS
  have HX := Lib.hid hx
  clear hx
  have E2 := (At.new w 25 #[.int .u8 x.fuel, .slice ia x.items.length ic, .slice ca x.calls.length cc]).alloc (.cells #[.int .u8 a, .int .u8 b, .int .u8 c] 50)
  have E3 := At.new1 w (.cells #[.int .u8 x.fuel, .slice ia x.items.length ic, .slice ca x.calls.length cc] 25) 50 #[.int .u8 a, .int .u8 b, .int .u8 c]
  have D0 := below_twice w (.cells #[.int .u8 x.fuel, .slice ia x.items.length ic, .slice ca x.calls.length cc] 25) (.cells #[.int .u8 a, .int .u8 b, .int .u8 c] 50)
  cases hfew : x.few with
  | false =>
    have HF := Lib.hid hfew
    clear hfew
    go_enter Try.func4, Try.ntmps4
    go_upto_region 1 with fail
    generalize (w.alloc (.cells #[.int .u8 x.fuel, .slice ia x.items.length ic, .slice ca x.calls.length cc] 25)).alloc (.cells #[.int .u8 a, .int .u8 b, .int .u8 c] 50) = w0 at *
    go_wp2_with (first
      | (go_at_call 9; refine (few_any _).mono ?_; rintro e w2 ⟨rfl, hb2⟩; rw [HF.out])
      | (refine wpl_ld rfl 25 _ rfl #[.int .u8 x.fuel, .slice ia x.items.length ic, .slice ca x.calls.length cc] rfl _ (E2.below' hb1) Try.underlying25 rfl (by kernel_rfl) rfl ?_)
      | (go_at_call 8; refine (awake18_any _).mono ?_; rintro e w1 ⟨rfl, hb1⟩))
    go_ret
    exact ⟨rfl, D0.trans ((hb1.trans (hb2.mono hb1.size)).mono D0.size)⟩
  | true =>
    have HF := Lib.hid hfew
    have hlen : x.items.length ≤ 12 ∧ x.calls.length ≤ 6 := by
      unfold Scene.few at hfew
      simpa using hfew
    clear hfew
    have HL := Lib.hid hlen
    have HBK := Lib.hid (show x.lay.c.buckets = 1 by rw [(lay_path HX.out hlen.1).2.1]; rfl)
    obtain ⟨lo, hlo⟩ : ∃ lo, lo = min a (min b c) := ⟨_, rfl⟩
    obtain ⟨hi, hhi⟩ : ∃ hi, hi = max a (max b c) := ⟨_, rfl⟩
    have q1 : lo ≤ hi ∧ 0 ≤ lo ∧ hi ≤ 255 := by omega
    obtain ⟨mid, hmid⟩ : ∃ mid, mid = lo + b % (hi - lo + 1) := ⟨_, rfl⟩
    have q2 : 0 ≤ b % (hi - lo + 1) ∧ b % (hi - lo + 1) < hi - lo + 1 := ⟨Int.emod_nonneg _ (by omega), Int.emod_lt_of_pos _ (by omega)⟩
    have q3 : lo ≤ mid ∧ mid ≤ hi := by omega
    have hlaw := parts_law HX.out hlen.1 q3.1 q3.2
    dsimp only at hlaw
    have hg1 := good_new x.lay 1 ⟨4, lo, mid, 99⟩ HBK.out
    have hc1 : (x.lay.scnNew 1 ⟨4, lo, mid, 99⟩).1.c.buckets = 1 := by rw [scnNew_c]; exact HBK.out
    generalize hq1 : x.lay.scnNew 1 ⟨4, lo, mid, 99⟩ = z1 at hlaw hg1 hc1
    obtain ⟨s1, y1⟩ := z1
    dsimp only at hg1 hc1
    have hb1 : (scnIter 300 (s1, y1)).1.c.buckets = 1 := by rw [(scnIter_same _ 300).1]; exact hc1
    generalize hp1 : scnIter 300 (s1, y1) = p1 at hlaw hb1
    have HQ1 := Lib.hid hq1
    have HP1 := Lib.hid hp1
    have HB1 := Lib.hid hb1
    have HC1 := Lib.hid hc1
    have HG1 := Lib.hid hg1
    clear hq1 hp1 hb1 hc1 hg1
    have hg2 := good_new p1.1 1 ⟨4, mid + 1, hi, 99⟩ HB1.out
    have hc2 : (p1.1.scnNew 1 ⟨4, mid + 1, hi, 99⟩).1.c.buckets = 1 := by rw [scnNew_c]; exact HB1.out
    generalize hq2 : p1.1.scnNew 1 ⟨4, mid + 1, hi, 99⟩ = z2 at hlaw hg2 hc2
    obtain ⟨s2, y2⟩ := z2
    dsimp only at hg2 hc2
    have hb2 : (scnIter 300 (s2, y2)).1.c.buckets = 1 := by rw [(scnIter_same _ 300).1]; exact hc2
    generalize hp2 : scnIter 300 (s2, y2) = p2 at hlaw hb2
    have HQ2 := Lib.hid hq2
    have HP2 := Lib.hid hp2
    have HB2 := Lib.hid hb2
    have HC2 := Lib.hid hc2
    have HG2 := Lib.hid hg2
    clear hq2 hp2 hb2 hc2 hg2
    have hg3 := good_new p2.1 1 ⟨4, lo, hi, 99⟩ HB2.out
    have hc3 : (p2.1.scnNew 1 ⟨4, lo, hi, 99⟩).1.c.buckets = 1 := by rw [scnNew_c]; exact HB2.out
    generalize hq3 : p2.1.scnNew 1 ⟨4, lo, hi, 99⟩ = z3 at hlaw hg3 hc3
    obtain ⟨s3, y3⟩ := z3
    dsimp only at hg3 hc3
    have hb3 : (scnIter 300 (s3, y3)).1.c.buckets = 1 := by rw [(scnIter_same _ 300).1]; exact hc3
    generalize hp3 : scnIter 300 (s3, y3) = p3 at hlaw hb3
    have HQ3 := Lib.hid hq3
    have HP3 := Lib.hid hp3
    have HB3 := Lib.hid hb3
    have HC3 := Lib.hid hc3
    have HG3 := Lib.hid hg3
    clear hq3 hp3 hb3 hc3 hg3
    have HLW := Lib.hid hlaw
    clear hlaw
    have r1 : (if (if c < b then c else b) < a then if c < b then c else b else a) = lo := by
      rw [hlo]; repeat' split
      all_goals omega
    have r2 : (if a < if b < c then c else b then if b < c then c else b else a) = hi := by
      rw [hhi]; repeat' split
      all_goals omega
    have r3 : IntKind.u64.wrap (lo + b % (hi - lo + 1)) = mid := by rw [← hmid]; exact IntWalk.u64_in _ (by omega)
    have HR := Lib.hid (And.intro r1 (And.intro r2 r3))
    clear r1 r2 r3
    have r9 : IntKind.u64.wrap (mid + 1) = mid + 1 := IntWalk.u64_in _ (by omega)
    have HQ := Lib.hid (And.intro q1 q3)
    clear hlo hhi hmid hlen
    go_enter Try.func4, Try.ntmps4
    go_upto_region 1 with fail
    generalize (w.alloc (.cells #[.int .u8 x.fuel, .slice ia x.items.length ic, .slice ca x.calls.length cc] 25)).alloc (.cells #[.int .u8 a, .int .u8 b, .int .u8 c] 50) = w0 at *
    go_upto_region 7 with (first
      | (go_at_call 10; refine (lay18_any w2 HX.out HL.out.1 HL.out.2 ⟨rfl, HS.out.items.below D2, HS.out.calls.below D2⟩).mono ?_; rintro e w3 ⟨k, rfl, hH3, hK3, hb3⟩)
      | (refine wpl_ld rfl 25 _ rfl #[.int .u8 x.fuel, .slice ia x.items.length ic, .slice ca x.calls.length cc] rfl _ ((E2.below' hb1).below' hb2) Try.underlying25 rfl (by kernel_rfl) rfl ?_)
      | (go_at_call 9; refine (few_any _).mono ?_; rintro e w2 ⟨rfl, hb2⟩; rw [HF.out]
         have D2 := D0.trans ((hb1.trans (hb2.mono hb1.size)).mono D0.size))
      | (refine wpl_ld rfl 25 _ rfl #[.int .u8 x.fuel, .slice ia x.items.length ic, .slice ca x.calls.length cc] rfl _ (E2.below' hb1) Try.underlying25 rfl (by kernel_rfl) rfl ?_)
      | (go_at_call 8; refine (awake18_any _).mono ?_; rintro e w1 ⟨rfl, hb1⟩))
    have B3 := ((E3.below' hb1).below' hb2).below' hb3
    have D3 := D2.trans (hb3.mono D2.size)
    have HKW := Lib.hid (show ∀ z, Own k z → w.heap.size ≤ z from fun z e => by have := hK3 z (.inr (.inr e)); have := D2.size; omega)
    have k0 : w3.cell? ⟨w.heap.size + 1, 0, none⟩ = some (.int .u8 a) := B3.cell 0
    have k1 : w3.cell? ⟨w.heap.size + 1, 1, none⟩ = some (.int .u8 b) := B3.cell 1
    have k2 : w3.cell? ⟨w.heap.size + 1, 2, none⟩ = some (.int .u8 c) := B3.cell 2
    have H3 := Lib.hid hH3
    clear hb1 hb2 hb3 D0 D2 hH3 hK3 E2 E3
    go_upto_region 10 with fail
    clear k0 k1 k2 B3
    rw [HR.out.1, HR.out.2.1, HR.out.2.2]
    go_upto_region 11 with (first
      | (refine wpl_st rfl 40 _ _ rfl (p1.2.cells (.slice b1 m1 d1) (.slice e1 n1 f1)) rfl _ rfl (At.new wF1 _ _) (by kernel_rfl) rfl rfl rfl ?_; intro wS1 A1 O1)
      | (go_at_call 14; refine (finish_any (N := fun z => ¬ Own k z) (m := 0) (s := s1) y1 wN1 HN1 IN1 HG1.out (by decide) HC1.out (fun z hz => HN1.fresh hz) (fun z hz => hz)).mono ?_; rintro e wF1 hS
         rw [HP1.out] at hS
         obtain ⟨lvF, pvF, rfl, HF1, IF1, OF1⟩ := hS.out
         obtain ⟨b1, m1, d1, rfl⟩ := IF1.lists.formN
         obtain ⟨e1, f1, rfl⟩ := IF1.pairs.form
         generalize hn1 : p1.2.pairs.length = n1 at *)
      | (go_at_call 11; refine (snew_any (N := fun z => ¬ Own k z) 1 ⟨4, lo, mid, 99⟩ w3 H3.out (by unfold GCall.fits; dsimp only; omega) (fun z hz => H3.out.fresh hz) HBK.out).mono ?_; rintro e wN1 hS
         rw [HQ1.out] at hS
         obtain ⟨lvN, pvN, rfl, HN1, IN1, ON1⟩ := hS.out
         obtain ⟨x1, x2, x3, rfl⟩ := IN1.lists.formN
         obtain ⟨x4, x5, rfl⟩ := IN1.pairs.form))
    have DS1 : Below wF1.heap.size wF1 wS1 := ((Below.refl _ wF1).alloc (Nat.le_refl _) _).trans (O1.below (by simp) fun j hj e => by have e' : j = wF1.heap.size := e; omega)
    have OA1 : Only (Own k) w3 wS1 := (ON1.trans OF1).thenBelow DS1
    have P1 : PairsIn wS1 (fun z => ¬ Own k z) (.slice e1 n1 f1) p1.2.pairs := IF1.pairs.below DS1
    have D4 : Below w.heap.size w wS1 := D3.trans (OA1.below D3.size fun z hz e => by have := HKW.out z e; omega)
    have H4 := Lib.hid (HF1.below DS1)
    have NG1 : ¬ Own k wF1.heap.size := HF1.fresh (Nat.le_refl _)
    generalize wF1.heap.size = g1 at *
    clear DS1 HF1 IF1 OF1 HN1 IN1 ON1 O1
    go_upto_region 12 with (first
      | (refine wpl_st rfl 40 _ _ rfl (p2.2.cells (.slice b2 m2 d2) (.slice e2 n2 f2)) rfl _ rfl (At.new wF2 _ _) (by kernel_rfl) rfl rfl rfl ?_; intro wS2 A2 O2)
      | (go_at_call 14; refine (finish_any (N := fun z => ¬ Own k z) (m := 0) (s := s2) y2 wN2 HN2 IN2 HG2.out (by decide) HC2.out (fun z hz => HN2.fresh hz) (fun z hz => hz)).mono ?_; rintro e wF2 hS
         rw [HP2.out] at hS
         obtain ⟨lvF, pvF, rfl, HF2, IF2, OF2⟩ := hS.out
         obtain ⟨b2, m2, d2, rfl⟩ := IF2.lists.formN
         obtain ⟨e2, f2, rfl⟩ := IF2.pairs.form
         generalize hn2 : p2.2.pairs.length = n2 at *)
      | (go_at_call 11; refine (snew_any (N := fun z => ¬ Own k z) 1 ⟨4, mid + 1, hi, 99⟩ wS1 H4.out (by unfold GCall.fits; dsimp only; omega) (fun z hz => H4.out.fresh hz) HB1.out).mono ?_; rintro e wN2 hS
         rw [HQ2.out] at hS
         obtain ⟨lvN, pvN, rfl, HN2, IN2, ON2⟩ := hS.out
         obtain ⟨x1, x2, x3, rfl⟩ := IN2.lists.formN
         obtain ⟨x4, x5, rfl⟩ := IN2.pairs.form))
    have DS2 : Below wF2.heap.size wF2 wS2 := ((Below.refl _ wF2).alloc (Nat.le_refl _) _).trans (O2.below (by simp) fun j hj e => by have e' : j = wF2.heap.size := e; omega)
    have OA2 : Only (Own k) wS1 wS2 := (ON2.trans OF2).thenBelow DS2
    have P2 : PairsIn wS2 (fun z => ¬ Own k z) (.slice e2 n2 f2) p2.2.pairs := IF2.pairs.below DS2
    have D5 : Below w.heap.size w wS2 := D4.trans (OA2.below D4.size fun z hz e => by have := HKW.out z e; omega)
    have H5 := Lib.hid (HF2.below DS2)
    have NG2 : ¬ Own k wF2.heap.size := HF2.fresh (Nat.le_refl _)
    generalize wF2.heap.size = g2 at *
    clear DS2 HF2 IF2 OF2 HN2 IN2 ON2 O2
    replace A1 := A1.only OA2 NG1
    replace P1 := P1.only OA2 (fun z hz => hz)
    go_upto_region 13 with (first
      | (refine wpl_st rfl 40 _ _ rfl (p3.2.cells (.slice b3 m3 d3) (.slice e3 n3 f3)) rfl _ rfl (At.new wF3 _ _) (by kernel_rfl) rfl rfl rfl ?_; intro wS3 A3 O3)
      | (go_at_call 14; refine (finish_any (N := fun z => ¬ Own k z) (m := 0) (s := s3) y3 wN3 HN3 IN3 HG3.out (by decide) HC3.out (fun z hz => HN3.fresh hz) (fun z hz => hz)).mono ?_; rintro e wF3 hS
         rw [HP3.out] at hS
         obtain ⟨lvF, pvF, rfl, HF3, IF3, OF3⟩ := hS.out
         obtain ⟨b3, m3, d3, rfl⟩ := IF3.lists.formN
         obtain ⟨e3, f3, rfl⟩ := IF3.pairs.form
         generalize hn3 : p3.2.pairs.length = n3 at *)
      | (go_at_call 11; refine (snew_any (N := fun z => ¬ Own k z) 1 ⟨4, lo, hi, 99⟩ wS2 H5.out (by unfold GCall.fits; dsimp only; omega) (fun z hz => H5.out.fresh hz) HB2.out).mono ?_; rintro e wN3 hS
         rw [HQ3.out] at hS
         obtain ⟨lvN, pvN, rfl, HN3, IN3, ON3⟩ := hS.out
         obtain ⟨x1, x2, x3, rfl⟩ := IN3.lists.formN
         obtain ⟨x4, x5, rfl⟩ := IN3.pairs.form))
    have DS3 : Below wF3.heap.size wF3 wS3 := ((Below.refl _ wF3).alloc (Nat.le_refl _) _).trans (O3.below (by simp) fun j hj e => by have e' : j = wF3.heap.size := e; omega)
    have OA3 : Only (Own k) wS2 wS3 := (ON3.trans OF3).thenBelow DS3
    have P3 : PairsIn wS3 (fun z => ¬ Own k z) (.slice e3 n3 f3) p3.2.pairs := IF3.pairs.below DS3
    have D6 : Below w.heap.size w wS3 := D5.trans (OA3.below D5.size fun z hz e => by have := HKW.out z e; omega)
    have H6 := Lib.hid (HF3.below DS3)
    have NG3 : ¬ Own k wF3.heap.size := HF3.fresh (Nat.le_refl _)
    generalize wF3.heap.size = g3 at *
    clear DS3 HF3 IF3 OF3 HN3 IN3 ON3 O3
    replace A1 := A1.only OA3 NG1
    replace P1 := P1.only OA3 (fun z hz => hz)
    replace A2 := A2.only OA3 NG2
    replace P2 := P2.only OA3 (fun z hz => hz)
    have HLN := Lib.hid (And.intro HLW.out.2.2.2.2.1 HLW.out.2.2.2.2.2)
    have HN1 := Lib.hid hn1
    have HN2 := Lib.hid hn2
    have HN3 := Lib.hid hn3
    have q1c : wS3.cell? ⟨g1, 13, none⟩ = some (.slice e1 n1 f1) := A1.cell 13
    have q2c : wS3.cell? ⟨g2, 13, none⟩ = some (.slice e2 n2 f2) := A2.cell 13
    clear hn1 hn2 hn3 q1 q2 q3
    have q1 := q1c
    have q2 := q2c
    clear q1c q2c
    refine wp_region_J (l := [_, _, _, _, _, _, _, _, _, _]) (AppG p1.2.pairs p2.2.pairs (fun j v => match j with | 1 => v = .pointer (some ⟨g1, 10, none⟩) | 2 => v = .pointer (some ⟨g1, 13, none⟩) | 3 => v = .slice e1 n1 f1 | 5 => v = .pointer (some ⟨g2, 10, none⟩) | 6 => v = .pointer (some ⟨g2, 13, none⟩) | 7 => v = .slice e2 n2 f2 | _ => True) wS3) (by kernel_rfl) (by kernel_rfl) (fun us => AppG.start us) ⟨?_, ?_, ?_, ?_, ?_, ?_, ?_, ?_, ?_, ?_, trivial⟩ ?_
    · intro dn us w6 A hev hy hG hdn hdep K hK
      rw [if_pos (by rfl)]
      unfold Oper.wp execOp
      go_simp
      exact hK _ _ (hG.made hdn (fun _ => trivial))
    · intro dn us w6 A hev hy hG hdn hdep K hK
      have e0 : A.eval (.tmp 10) = .pointer (some ⟨g1, 0, none⟩) := by rw [hev]; rfl
      rw [if_pos (by rfl)]
      unfold Oper.wp execOp
      generalize A.eval = ev at e0 ⊢
      go_simp
      exact hK _ _ (hG.first (by decide) (by first | rfl | (simp; done) | (simp; omega) | (simp; assumption)))
    · intro dn us w6 A hev hy hG hdn hdep K hK
      have d1 : dn 1 = true := allD_mem hdep (by decide)
      have e0 : A.eval (.tmp 74) = .pointer (some ⟨g1, 10, none⟩) := by rw [hev]; exact hG.pre 1 d1
      rw [if_pos (by rfl)]
      unfold Oper.wp execOp
      generalize A.eval = ev at e0 ⊢
      go_simp
      exact hK _ _ (hG.first (by decide) (by first | rfl | (simp; done) | (simp; omega) | (simp; assumption)))
    · intro dn us w6 A hev hy hG hdn hdep K hK
      have d2 : dn 2 = true := allD_mem hdep (by decide)
      have e0 : A.eval (.tmp 75) = .pointer (some ⟨g1, 13, none⟩) := by rw [hev]; exact hG.pre 2 d2
      have cc0 : w6.cell? ⟨g1, 13, none⟩ = some (.slice e1 n1 f1) := by rw [hG.below.cell (World.block_lt_of_cell? _ _ q1)]; exact q1
      rw [if_pos (by rfl)]
      unfold Oper.wp execOp
      generalize A.eval = ev at e0 ⊢
      go_simp
      exact hK _ _ (hG.first (by decide) (by first | rfl | (simp; done) | (simp; omega) | (simp; assumption)))
    · intro dn us w6 A hev hy hG hdn hdep K hK
      have d0 : dn 0 = true := allD_mem hdep (by decide)
      have d3 : dn 3 = true := allD_mem hdep (by decide)
      have e0 : A.eval (.tmp 73) = us 0 := by rw [hev]; rfl
      have e1 : A.eval (.tmp 76) = .slice e1 n1 f1 := by rw [hev]; exact hG.pre 3 d3
      rw [if_pos (by rfl)]
      refine wp_append_pairs (.tmp 73) (.tmp 76) rfl wS3.heap.size _ _ _ e0 (hG.r0 d0 hdn) e1 (P1.below hG.below) (by have := HLN.out; have := HN1.out; omega) hG.below.size fun v' w' r1 r2 => ?_
      exact hK _ _ (hG.app1 hdn (fun _ => trivial) (by rw [Nat.zero_add, List.nil_append] at r1; rw [← HN1.out] at r1; exact r1) r2 d0)
    · intro dn us w6 A hev hy hG hdn hdep K hK
      have e0 : A.eval (.tmp 11) = .pointer (some ⟨g2, 0, none⟩) := by rw [hev]; rfl
      rw [if_pos (by rfl)]
      unfold Oper.wp execOp
      generalize A.eval = ev at e0 ⊢
      go_simp
      exact hK _ _ (hG.first (by decide) (by first | rfl | (simp; done) | (simp; omega) | (simp; assumption)))
    · intro dn us w6 A hev hy hG hdn hdep K hK
      have d5 : dn 5 = true := allD_mem hdep (by decide)
      have e0 : A.eval (.tmp 78) = .pointer (some ⟨g2, 10, none⟩) := by rw [hev]; exact hG.pre 5 d5
      rw [if_pos (by rfl)]
      unfold Oper.wp execOp
      generalize A.eval = ev at e0 ⊢
      go_simp
      exact hK _ _ (hG.first (by decide) (by first | rfl | (simp; done) | (simp; omega) | (simp; assumption)))
    · intro dn us w6 A hev hy hG hdn hdep K hK
      have d6 : dn 6 = true := allD_mem hdep (by decide)
      have e0 : A.eval (.tmp 79) = .pointer (some ⟨g2, 13, none⟩) := by rw [hev]; exact hG.pre 6 d6
      have cc0 : w6.cell? ⟨g2, 13, none⟩ = some (.slice e2 n2 f2) := by rw [hG.below.cell (World.block_lt_of_cell? _ _ q2)]; exact q2
      rw [if_pos (by rfl)]
      unfold Oper.wp execOp
      generalize A.eval = ev at e0 ⊢
      go_simp
      exact hK _ _ (hG.first (by decide) (by first | rfl | (simp; done) | (simp; omega) | (simp; assumption)))
    · intro dn us w6 A hev hy hG hdn hdep K hK
      have d4 : dn 4 = true := allD_mem hdep (by decide)
      have d7 : dn 7 = true := allD_mem hdep (by decide)
      have e0 : A.eval (.tmp 77) = us 4 := by rw [hev]; rfl
      have e1 : A.eval (.tmp 80) = .slice e2 n2 f2 := by rw [hev]; exact hG.pre 7 d7
      rw [if_pos (by rfl)]
      refine wp_append_pairs (.tmp 77) (.tmp 80) rfl wS3.heap.size _ _ _ e0 (hG.r4 d4 hdn) e1 (P2.below hG.below) (by have := HLN.out; have := HN1.out; omega) hG.below.size fun v' w' r1 r2 => ?_
      exact hK _ _ (hG.app2 hdn (fun _ => trivial) (by rw [← HN2.out] at r1; exact r1) r2 d4)
    · intro dn us w6 A hev hy hG hdn hdep K hK
      have d8 : dn 8 = true := allD_mem hdep (by decide)
      have e0 : A.eval (.tmp 81) = us 8 := by rw [hev]; rfl
      rw [if_pos (by rfl)]
      unfold Oper.wp execOp
      generalize A.eval = ev at e0 ⊢
      go_simp
      exact hK _ _ (hG.last (fun _ => trivial) d8)
    intro dn us wA hG hall
    have u9 : us 9 = us 8 := hG.r9 (hall 9 (by decide))
    have hR8 := hG.r8 (hall 8 (by decide))
    have DA := hG.below
    simp only [fillA, fillT, Nat.reduceAdd, u9]
    generalize us 8 = v8 at *
    clear hG hall u9
    have D7 := D6.trans (DA.mono D6.size)
    have PL : PairsIn wA (fun _ => True) v8 (p1.2.pairs ++ p2.2.pairs) := PairsIn.of_row (n := p1.2.pairs.length + p2.2.pairs.length) (base := wS3.heap.size) (e := 48) (by rw [pairsV_append]; exact hR8) (fun _ _ => trivial)
    have PR := P3.below DA
    have x1 : wA.cell? ⟨g1, 9, none⟩ = some (.bool true) := by rw [← HLW.out.1]; exact (A1.below' DA).cell 9
    have x2 : wA.cell? ⟨g2, 9, none⟩ = some (.bool true) := by rw [← HLW.out.2.1]; exact (A2.below' DA).cell 9
    have x3 : wA.cell? ⟨g3, 9, none⟩ = some (.bool true) := by rw [← HLW.out.2.2.1]; exact (A3.below' DA).cell 9
    have x4 : wA.cell? ⟨g3, 13, none⟩ = some (.slice e3 n3 f3) := (A3.below' DA).cell 13
    have hlen12 : (p1.2.pairs ++ p2.2.pairs).length ≤ 100000 := by
      have h1 := HLN.out
      have h2 := HN1.out
      have h3 := HN2.out
      rw [List.length_append]; omega
    have HEQ := Lib.hid (show p1.2.pairs ++ p2.2.pairs = p3.2.pairs from HLW.out.2.2.2.1.symm)
    clear A1 A2 A3 P1 P2 P3 q1 q2 DA hR8
    go_wp2_with (go_at_call 15; refine (same09_any wA PL PR hlen12).mono ?_; rintro e wZ ⟨rfl, hbZ⟩; rw [decide_eq_true HEQ.out])
    all_goals go_ret
    all_goals exact ⟨rfl, D7.trans (hbZ.mono D7.size)⟩
end Go.Proofs.Ytccmjljlfgbicaa

/- Three small numbers that come in, as an array. -/
namespace Go.Proofs.Ytccmjljlfgbicaa
open Go.Joins Go.ChangeShapes Go.WideShapes Go.ChangeAt Go.RowKit Go.Deep

section
variable {H : Type} {enc : TypeId × Value → H} {w : World} {base : Nat} {spare : Nat → Bool} {held : Bool}
set_option maxRecDepth 100000 in
theorem open_arr3 {r : Reach} {b0 : Nat} {v : Value} {d : DataW H} {p : List MemPlace} (hv : Value.okWide Try.prog w r b0 50 v) (h : DataW.Trod enc Try.prog w base spare held 50 v d p) :
    ∃ a b c : Int, v = .agg #[.int .u8 a, .int .u8 b, .int .u8 c] ∧ (0 ≤ a ∧ a ≤ 255) ∧ (0 ≤ b ∧ b ≤ 255) ∧ (0 ≤ c ∧ c ≤ 255) := by
  have hv' := hv
  simp only [Value.okWide, Try.underlying50] at hv'
  obtain ⟨cs, rfl, hsz, _⟩ := hv'
  have hsz3 : cs.size = 3 := hsz.trans (by kernel_rfl)
  obtain ⟨fuel, hf⟩ := h
  obtain ⟨xs, m, _, _, _, hxl, hg⟩ := DataW.trod_array Try.underlying50 hf
  have hc : Try.prog.cellsOf 5 = 1 := by kernel_rfl
  obtain ⟨l⟩ := cs
  match l, hsz3 with
  | [c0, c1, c2], _ =>
    have g : ∀ i, i < 3 → ∃ y, xs[i]? = some y := fun i hi => ⟨_, List.getElem?_eq_getElem (by omega)⟩
    obtain ⟨y0, h0⟩ := g 0 (by decide)
    obtain ⟨y1, h1⟩ := g 1 (by decide)
    obtain ⟨y2, h2⟩ := g 2 (by decide)
    have t0 := hg 0 (by decide)
    have t1 := hg 1 (by decide)
    have t2 := hg 2 (by decide)
    rw [hc, h0] at t0
    rw [hc, h1] at t1
    rw [hc, h2] at t2
    obtain ⟨n0, e0, _, w0⟩ := DataW.trod_int Try.underlying5 (show DataW.trod enc Try.prog w base spare held m 5 [c0] = some y0 from t0)
    obtain ⟨n1, e1, _, w1⟩ := DataW.trod_int Try.underlying5 (show DataW.trod enc Try.prog w base spare held m 5 [c1] = some y1 from t1)
    obtain ⟨n2, e2, _, w2⟩ := DataW.trod_int Try.underlying5 (show DataW.trod enc Try.prog w base spare held m 5 [c2] = some y2 from t2)
    injection e0 with e0
    injection e1 with e1
    injection e2 with e2
    subst e0; subst e1; subst e2
    exact ⟨n0, n1, n2, rfl, u8_of_wf w0, u8_of_wf w1, u8_of_wf w2⟩
end
end Go.Proofs.Ytccmjljlfgbicaa

/- ScanParts returns true for every scene and every three numbers: two ranges beside one another tell together what the range of both does, in a world that nobody disturbs. No condition. -/
namespace Go.Proofs.Ytccmjljlfgbicaa.scanParts
open Go.ChangeShapes Go.WideShapes Go.ChangeAt Go.RowKit
set_option linter.unusedVariables false

theorem own : ownKnob Try.prog.godebug = none := by kernel_rfl
theorem laidOut : laidOutB Try.prog = true := by kernel_rfl

set_option maxRecDepth 100000 in
theorem lifted (os : Os) (started : os.Started) (H : Type) (enc : TypeId × Value → H) :
    ReturnsInHanded {} Try.checked os 4 .any (Rows.scanPartsSpec.pre6 enc Try.prog Try.f4 Rows.scanPartsRow.domain false) (Rows.scanPartsSpec.post enc Try.prog Try.f4 false true false false) := by
  refine returnsInHanded_of_change (C := Try.checked) own started (by kernel_rfl) Try.func4
    (ChangeSpec.witness6 (enc := enc) (C := Try.checked) false ⟨#[], #[.agg #[.int .u8 0, .slice none 0 0, .slice none 0 0], .agg #[.int .u8 0, .int .u8 0, .int .u8 0]], []⟩ 12 (by kernel_rfl) (by kernel_rfl) (by kernel_rfl) (by kernel_rfl)) ?_
  intro W base args ds gs before hval0 hW hcnd _
  have hval : ∀ (j : Nat) t v, Try.f4.params[j]? = some t → args[j]? = some v → Value.okWide Try.prog W .any base t v := hval0
  have hW' := hW
  obtain ⟨p, q, hA0, hV, rfl, hfz, hnd⟩ := hW
  have hA : DataW.TrodAll enc Try.prog W 0 (fun _ => true) true Try.f4.params.toList args.toList ds p := hA0
  rw [Try.params4] at hA hval
  obtain ⟨v0, vs0, d0, ds0, p0, q0, hargs, rfl, rfl, h0, r0⟩ := trodAll_cons hA
  obtain ⟨v1, vs1, d1, ds1, p1, q1, rfl, rfl, rfl, h1, r1⟩ := trodAll_cons r0
  obtain ⟨rfl, rfl, rfl⟩ := trodAll_nil r1
  obtain rfl : args = #[v0, v1] := by cases args; simp_all
  obtain ⟨rfl, rfl⟩ := trodVars_none hV
  obtain ⟨c0, ia0, ca0, ic0, cc0, hS0, hx0⟩ := open_scene (hval 0 _ v0 rfl rfl) h0
  obtain ⟨a1, b1, c1, rfl, ha1, hb1, hc1⟩ := open_arr3 (hval 1 _ v1 rfl rfl) h1
  clear hA0 hval0
  simp only [List.append_nil] at hW'
  refine (parts_walk a1 b1 c1 W hx0 hS0 ha1 hb1 hc1).mono fun e W' ⟨he, hb⟩ => ?_
  subst he
  have hlt : ∀ y ∈ p0 ++ (p1), y.block < W.heap.size := fun y hy => by simpa using hW'.lt y (by simpa using hy)
  exact ⟨_, rfl, post_new hW' hb (fun _ _ _ => trodAll_cons_mk (shut_bool Try.underlying4 _) trodAll_mk0)
    (fun sp hsp => by
      have := (trodAll_cons_mk (WideElems.Trod_stays laidOut (by kernel_rfl) (of_decide_eq_true (by kernel_rfl)) h0 (fun y hy => hb.same (hlt y (List.mem_append_left _ hy))) (fun y hy => hsp y (List.mem_append_left _ hy))) (trodAll_cons_mk (WideElems.Trod_stays laidOut (by kernel_rfl) (of_decide_eq_true (by kernel_rfl)) h1 (fun y hy => hb.same (hlt y (List.mem_append_right _ hy))) (fun y hy => hsp y (List.mem_append_right _ hy))) trodAll_mk0))
      simp only [List.append_nil] at this
      exact this)
    (fun _ => rfl) (ok_one (by kernel_rfl) rfl (okWide_bool_mk Try.underlying4 _))⟩

theorem over : Rows.scanPartsRow.holds Try.pinned (OpenSpec.ofChange Rows.scanPartsSpec) :=
  OpenClaim.holds_of_wide 4 Try.f4 rfl rfl rfl rfl rfl rfl rfl ⟨rfl, rfl, rfl, rfl, rfl⟩ rfl rfl rfl rfl rfl (by kernel_rfl) Try.func4 (by kernel_rfl)
    (of_decide_eq_true (by kernel_rfl)) (by unfold Func.isWrapper; first | (rw [if_pos (by decide +kernel)]; kernel_rfl) | (rw [if_neg (by decide +kernel)]; exact ⟨rfl, rfl⟩))
    (fun os started H enc _ => lifted os started H enc)

theorem proved : Rows.ScanPartsSaid :=
  over
#print axioms proved
end Go.Proofs.Ytccmjljlfgbicaa.scanParts

