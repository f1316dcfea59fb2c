/- A world and the document's answer, side by side: the same state in both, and neither lies where the other does. -/
import Derived.Test.YtccmjljlfgbicaaGreatZR2
import Derived.Test.YtccmjljlfgbicaaGreatWorld2
import Derived.Test.YtccmjljlfgbicaaGreatLayA
import Derived.Lib.SmallJoins
import Derived.Deep.Slices
import Derived.Deep.Fields
import Derived.ChangeSame
import Derived.Below
import Derived.DataShut
import Derived.Carry
import Derived.OpenShut
import Derived.Test.YtccmjljlfgbicaaGreatWalkE
import Derived.Test.YtccmjljlfgbicaaGreatRefH
import Derived.Deep.RegionHeld3
import Derived.Test.YtccmjljlfgbicaaGreatWalkB
import Derived.Test.YtccmjljlfgbicaaGreatOutG
import Derived.Test.YtccmjljlfgbicaaGreatRefN
import Derived.Test.YtccmjljlfgbicaaGreatRefG4
namespace Go.Proofs.YtccmjljlfgbicaaGreat
open Go.ChangeShapes Go.WideShapes Go.ChangeAt Go.RowKit

theorem Holds.own_lt {k : Blks} {s : St} {w : World} (h : Holds k s w) : ∀ i, Own k i → i < w.heap.size := by
  intro i hi
  apply Nat.lt_of_not_le
  intro hn
  exact h.fresh hn hi
/-- The document's answer lies elsewhere than a world. -/
structure Aside (k : Blks) (r : RV) : Prop where
  rows : RowsOff r (Own k)
  words : ∀ b o, r.w.1 = some ⟨b, o, none⟩ → ¬ Own k b
structure Both (k : Blks) (r : RV) (s : St) (w : World) : Prop where
  holds : Holds k s w
  ref : RefIn w r s
  aside : Aside k r
section
variable {k : Blks} {r : RV} {s s1 : St} {w w1 w2 : World}
theorem RefIn.aside (h : RefIn w r s) (ha : Aside k r) (ho : Only (Own k) w w1) : RefIn w1 r s :=
  ⟨h.words.only ho fun b o e _ => ha.words b o e, h.book.only ho ha.rows⟩
theorem Aside.next (ha : Aside k r) (h : Holds k s w) {p : Sl} (hf : Fr w.heap.size r.w.1 p.1) : Aside k { r with w := p } :=
  ⟨⟨ha.rows.cs, ha.rows.is, ha.rows.ms, ha.rows.os, ha.rows.ns⟩, hf.off (N := Own k) ha.words h.own_lt⟩
theorem Both.below (h : Both k r s w) (hb : Below w.heap.size w w1) : Both k r s w1 := ⟨h.holds.below hb, h.ref.below hb, h.aside⟩
/-- Both make a step: the world first. -/
theorem Both.step (hB : Both k r s w) (hH : Holds k s1 w1) (_hO : Only (Own k) w w1) {p : Sl} (hr : ReadAt w2 p.1 (wordsV s1.words)) (hb : Below w1.heap.size w1 w2) (hf : Fr w1.heap.size r.w.1 p.1) (hBk : BookIn w2 { r with w := p } s1) : Both k { r with w := p } s1 w2 :=
  ⟨hH.below hb, ⟨hr, hBk⟩, hB.aside.next hH hf⟩
end
end Go.Proofs.YtccmjljlfgbicaaGreat

/- A scene that comes in: its cells. -/
namespace Go.Proofs.YtccmjljlfgbicaaGreat
open Go.Joins Go.ChangeShapes Go.WideShapes Go.ChangeAt Go.RowKit Go.Deep

section
variable {H : Type} {enc : TypeId × Value → H} {P : Program}
/-- A thing's fields, of a cell each, where the thing lies. -/
theorem field_at {w : World} {base : Nat} {spare : Nat → Bool} {held : Bool} {e : TypeId} {fs : Array Field} {c n : Nat} {a : Addr} {cs : List Value} {x : DataW H × List MemPlace} (he : P.underlying e = some (.struct fs)) (hone : oneCellFields P fs = true) (hc : fs.size = c)
    (hcs : w.cells? base a c = some cs) (ht : DataW.trod enc P w base spare held n e cs = some x) {j : Nat} {f : Field} (hj : fs[j]? = some f) :
    ∃ v y m, w.cell? (a.add j) = some v ∧ DataW.trod enc P w base spare held m f.type [v] = some y := by
  obtain ⟨xs, m, _, _, _, hxl, hg⟩ := DataW.trod_struct he ht
  obtain ⟨_, hlen, hat⟩ := World.cells?_some hcs
  have hjc : j < c := hc ▸ (Array.getElem?_eq_some_iff.1 hj).1
  obtain ⟨ho, h1⟩ := hone_of hone j f hj
  obtain ⟨v, hv⟩ : ∃ v, cs[j]? = some v := ⟨_, List.getElem?_eq_getElem (by omega)⟩
  obtain ⟨y, hy⟩ : ∃ y, xs[j]? = some y := ⟨_, List.getElem?_eq_getElem (by omega)⟩
  have hd : (cs.drop j).take 1 = [v] := by
    have hjl : j < cs.length := by omega
    rw [List.drop_eq_getElem_cons hjl]
    rw [List.getElem?_eq_getElem hjl] at hv
    injection hv with hv
    rw [hv]; rfl
  have h2 := hg j f hj
  rw [ho, h1, hd, hy] at h2
  exact ⟨v, y, m, (hat j hjc).trans hv, h2⟩

/-- The row's last step: the world is the old one, but for new blocks; nothing is held beside the arguments. -/
theorem post_new {f : Func} {s : ChangeSpec} {apart fresh handsOn again : Bool} {W W' : World} {args : Array Value} {v : Value} {ds : List (DataW H)} {places : List MemPlace}
    (hW : DataW.Whole enc P f.params.toList s.vars apart W args.toList ds [] places) (hb : Below W.heap.size W W')
    (hr : ∀ (b : Nat) (sp : Nat → Bool) (hd : Bool), DataW.TrodAll enc P W' b sp hd f.resultTypes.toList (v.resultList f.resultTypes.size) (s.fn H (ds ++ [])).results [])
    (ha : ∀ sp : Nat → Bool, (∀ p ∈ places, sp p.block = true) → DataW.TrodAll enc P W' 0 sp true f.params.toList args.toList (s.fn H (ds ++ [])).args places)
    (hv : ∀ sp : Nat → Bool, DataW.TrodVars enc P W' sp s.vars (s.fn H (ds ++ [])).vars [])
    (hok : ∀ (j : Nat) (t : TypeId) (r : Value), f.resultTypes[j]? = some t → (v.resultList f.resultTypes.size)[j]? = some r → Value.okWide P W' .any 0 t r) :
    s.post enc P f apart fresh handsOn again W args v W' := by
  have hlt := fun p hp => hW.lt p hp
  refine ⟨ds, [], places, [], places, [], hW, hr _ _ _, ha _ fun p hp => decide_eq_true (hlt p hp), hv _, World.keptBut_mono (fun p hp => ⟨hp, .inr (by simpa using hp)⟩) (hb.frame (· ∈ places)), fun _ => ⟨hok, ?_⟩⟩
  obtain ⟨_, _, _, _, _, hz, hn⟩ := hW
  refine ⟨_, _, _, ⟨[] ++ places, [], trodAll_append (ha _ fun _ _ => rfl) (hr _ _ _), hv _, rfl, ?_, ?_⟩, ?_⟩
  · intro b off hp
    have hin : MemPlace.cell b off ∈ places := by simpa using hp
    exact (hb.frozen (hlt _ hin)).trans (hz b off hin)
  · intro hap; simpa using hn hap
  · intro p hp _; simpa using hp
end

theorem choose_list {α : Type} {n : Nat} {P : Nat → α → Prop} (h : ∀ i, i < n → ∃ x, P i x) : ∃ l : List α, l.length = n ∧ ∀ i x, l[i]? = some x → P i x := by
  induction n with
  | zero => exact ⟨[], rfl, fun i x h => by simp at h⟩
  | succ n ih =>
    obtain ⟨l, hl, hp⟩ := ih fun i hi => h i (by omega)
    obtain ⟨y, hy⟩ := h n (by omega)
    refine ⟨l ++ [y], by simp [hl], fun i x hx => ?_⟩
    by_cases hi : i < l.length
    · rw [List.getElem?_append_left hi] at hx; exact hp i x hx
    · have hlen : i < (l ++ [y]).length := (List.getElem?_eq_some_iff.1 hx).1
      have e : i = n := by simp at hlen; omega
      subst e
      rw [List.getElem?_append_right (by omega)] at hx
      simp [hl] at hx
      exact hx ▸ hy
theorem u64_of_wf {n : Int} (h : (Lit.int .u64 n).wf = true) : 0 ≤ n ∧ n ≤ 18446744073709551615 := by
  have := (Lit.wf_int_iff .u64 n).1 h
  simpa [IntKind.min, IntKind.max, IntKind.signed, IntKind.bits] using this
theorem u8_of_wf {n : Int} (h : (Lit.int .u8 n).wf = true) : 0 ≤ n ∧ n ≤ 255 := by
  have := (Lit.wf_int_iff .u8 n).1 h
  simpa [IntKind.min, IntKind.max, IntKind.signed, IntKind.bits] using this
theorem spot_none {w : World} {a : Addr} {v : Value} (h : w.cell? a = some v) : a.spot = none := by
  unfold World.cell? at h
  split at h
  · split at h
    · cases h
    · rename_i hs
      cases hsp : a.spot with
      | none => rfl
      | some k => rw [hsp] at hs; simp at hs
  · cases h
theorem addr_add {a : Addr} (hs : a.spot = none) (n : Nat) : a.add n = ⟨a.block, a.off + n, none⟩ := by
  obtain ⟨b, o, s⟩ := a
  simp only at hs
  subst hs
  exact Addr.add_lit _ _ _

/-- A row of things of n cells each: where it is told by its things. -/
theorem readAt_rows {α : Type} {f : α → List Value} {c : Nat} (hc : ∀ x, (f x).length = c) (hc0 : 0 < c) {w : World} {a : Addr} {l : List α} (h : ∀ i x, l[i]? = some x → ∀ j u, (f x)[j]? = some u → w.cell? (a.add (i * c + j)) = some u) : ReadAt w (some a) (l.flatMap f) := by
  have hget : ∀ (l : List α) j u, (l.flatMap f)[j]? = some u → ∃ i x r, l[i]? = some x ∧ (f x)[r]? = some u ∧ j = i * c + r := by
    intro l
    induction l with
    | nil => intro j u h; simp at h
    | cons y l ih =>
      intro j u h
      rw [List.flatMap_cons] at h
      by_cases hj : j < c
      · rw [List.getElem?_append_left (by rw [hc]; exact hj)] at h
        exact ⟨0, y, j, rfl, h, by omega⟩
      · rw [List.getElem?_append_right (by rw [hc]; omega), hc] at h
        obtain ⟨i, x, r, h1, h2, h3⟩ := ih _ _ h
        exact ⟨i + 1, x, r, by rw [List.getElem?_cons_succ]; exact h1, h2, by rw [Nat.add_mul]; omega⟩
  intro j u hu
  obtain ⟨i, x, r, h1, h2, rfl⟩ := hget l j u hu
  obtain ⟨y, hy⟩ : ∃ y, l[0]? = some y := by
    cases l with
    | nil => simp at h1
    | cons y l => exact ⟨y, rfl⟩
  obtain ⟨v0, hv0⟩ : ∃ v0, (f y)[0]? = some v0 := ⟨_, List.getElem?_eq_getElem (by rw [hc]; exact hc0)⟩
  have hs : a.spot = none := spot_none (by simpa [Addr.add] using h 0 y hy 0 v0 hv0)
  refine ⟨a.block, a.off, by rw [← hs], ?_⟩
  have := h i x h1 r u h2
  rwa [addr_add hs] at this

section
variable {H : Type} {enc : TypeId × Value → H} {w : World} {base : Nat} {spare : Nat → Bool} {held : Bool}
theorem open_items {fuel : Nat} {v : Value} {x : DataW H × List MemPlace} (h : DataW.trod enc Tryz.prog w base spare held fuel 22 [v] = some x) :
    ∃ (ao : Option Addr) (l : List GItem) (cap : Nat), v = .slice ao l.length cap ∧ ReadAt w ao (itemsV l) ∧ ∀ i ∈ l, i.fits := by
  rcases open_slice Tryz.underlying22 h with ⟨hv, _⟩ | ⟨a, len, cap, m, k, D, Pl, hv, _, hlc, _, hm, _, hf⟩
  · injection hv with hv
    exact ⟨none, [], 0, hv, fun j u hu => by simp [itemsV] at hu, fun i hi => by cases hi⟩
  · injection hv with hv
    have hlm : len ≤ m := by rw [hm]; split <;> omega
    obtain ⟨l, hl, hp⟩ := choose_list (n := len) (P := fun i (it : GItem) => it.fits ∧ ∀ j u, it.cells[j]? = some u → w.cell? (a.add (i * 5 + j)) = some u) (by
      intro i hi
      obtain ⟨cs, hcs, htr⟩ := hf i (by omega)
      rw [show Tryz.prog.cellsOf 107 = 5 by kernel_rfl] at hcs
      have hg := fun (j : Nat) (f : Field) (hj : _) => field_at (j := j) (f := f) Tryz.underlying107 (by kernel_rfl) rfl hcs htr hj
      obtain ⟨v0, y0, _, c0, t0⟩ := hg 0 _ rfl
      obtain ⟨v1, y1, _, c1, t1⟩ := hg 1 _ rfl
      obtain ⟨v2, y2, _, c2, t2⟩ := hg 2 _ rfl
      obtain ⟨v3, y3, _, c3, t3⟩ := hg 3 _ rfl
      obtain ⟨v4, y4, _, c4, t4⟩ := hg 4 _ rfl
      rw [add_add] at c0 c1 c2 c3 c4
      obtain ⟨n0, e0, _, w0⟩ := DataW.trod_int Tryz.underlying26 t0
      obtain ⟨n1, e1, _, w1⟩ := DataW.trod_int Tryz.underlying26 t1
      obtain ⟨n2, e2, _, w2⟩ := DataW.trod_int Tryz.underlying26 t2
      obtain ⟨b3, e3, _⟩ := DataW.trod_bool Tryz.underlying4 t3
      obtain ⟨b4, e4, _⟩ := DataW.trod_bool Tryz.underlying4 t4
      injection e0 with e0; injection e1 with e1; injection e2 with e2; injection e3 with e3; injection e4 with e4
      subst e0; subst e1; subst e2; subst e3; subst e4
      refine ⟨⟨n0, n1, n2, b3, b4⟩, ⟨u64_of_wf w0, u64_of_wf w1, u64_of_wf w2⟩, ?_⟩
      intro j u hu
      match j, hu with
      | 0, hu => cases hu; exact c0
      | 1, hu => cases hu; exact c1
      | 2, hu => cases hu; exact c2
      | 3, hu => cases hu; exact c3
      | 4, hu => cases hu; exact c4
      | j + 5, hu => simp [GItem.cells] at hu)
    refine ⟨some a, l, cap, by rw [hl]; exact hv, readAt_rows (f := GItem.cells) (c := 5) (fun x => rfl) (by decide) fun i x hx => (hp i x hx).2, ?_⟩
    intro it hit
    obtain ⟨i, hi⟩ := List.getElem?_of_mem hit
    exact (hp i it hi).1
theorem open_calls {fuel : Nat} {v : Value} {x : DataW H × List MemPlace} (h : DataW.trod enc Tryz.prog w base spare held fuel 23 [v] = some x) :
    ∃ (ao : Option Addr) (l : List GCall) (cap : Nat), v = .slice ao l.length cap ∧ ReadAt w ao (callsV l) ∧ ∀ i ∈ l, i.fits := by
  rcases open_slice Tryz.underlying23 h with ⟨hv, _⟩ | ⟨a, len, cap, m, k, D, Pl, hv, _, hlc, _, hm, _, hf⟩
  · injection hv with hv
    exact ⟨none, [], 0, hv, fun j u hu => by simp [callsV] at hu, fun i hi => by cases hi⟩
  · injection hv with hv
    have hlm : len ≤ m := by rw [hm]; split <;> omega
    obtain ⟨l, hl, hp⟩ := choose_list (n := len) (P := fun i (it : GCall) => it.fits ∧ ∀ j u, it.cells[j]? = some u → w.cell? (a.add (i * 4 + j)) = some u) (by
      intro i hi
      obtain ⟨cs, hcs, htr⟩ := hf i (by omega)
      rw [show Tryz.prog.cellsOf 28 = 4 by kernel_rfl] at hcs
      have hg := fun (j : Nat) (f : Field) (hj : _) => field_at (j := j) (f := f) Tryz.underlying28 (by kernel_rfl) rfl hcs htr hj
      obtain ⟨v0, y0, _, c0, t0⟩ := hg 0 _ rfl
      obtain ⟨v1, y1, _, c1, t1⟩ := hg 1 _ rfl
      obtain ⟨v2, y2, _, c2, t2⟩ := hg 2 _ rfl
      obtain ⟨v3, y3, _, c3, t3⟩ := hg 3 _ rfl
      rw [add_add] at c0 c1 c2 c3
      obtain ⟨n0, e0, _, w0⟩ := DataW.trod_int Tryz.underlying3 t0
      obtain ⟨n1, e1, _, w1⟩ := DataW.trod_int Tryz.underlying26 t1
      obtain ⟨n2, e2, _, w2⟩ := DataW.trod_int Tryz.underlying26 t2
      obtain ⟨n3, e3, _, w3⟩ := DataW.trod_int Tryz.underlying3 t3
      injection e0 with e0; injection e1 with e1; injection e2 with e2; injection e3 with e3
      subst e0; subst e1; subst e2; subst e3
      have f1 := u64_of_wf w1
      have f2 := u64_of_wf w2
      refine ⟨⟨n0, n1, n2, n3⟩, ⟨f1.1, f1.2, f2.1, f2.2⟩, ?_⟩
      intro j u hu
      match j, hu with
      | 0, hu => cases hu; exact c0
      | 1, hu => cases hu; exact c1
      | 2, hu => cases hu; exact c2
      | 3, hu => cases hu; exact c3
      | j + 4, hu => simp [GCall.cells] at hu)
    refine ⟨some a, l, cap, by rw [hl]; exact hv, readAt_rows (f := GCall.cells) (c := 4) (fun x => rfl) (by decide) fun i x hx => (hp i x hx).2, ?_⟩
    intro it hit
    obtain ⟨i, hi⟩ := List.getElem?_of_mem hit
    exact (hp i it hi).1

set_option maxRecDepth 100000 in
/-- A scene that comes in. -/
theorem open_scene {r : Reach} {b0 : Nat} {v : Value} {d : DataW H} {p : List MemPlace} (hv : Value.okWide Tryz.prog w r b0 25 v) (h : DataW.Trod enc Tryz.prog w base spare held 25 v d p) :
    ∃ (x : Scene) (ia ca : Option Addr) (ic cc : Nat), SceneAt w v x ia ca ic cc ∧ x.fits := by
  obtain ⟨v0, v1, v2, y0, y1, y2, n, rfl, _, _, t0, t1, t2⟩ := open_agg3 Tryz.underlying25 (by kernel_rfl) (by kernel_rfl) hv h
  obtain ⟨f, e0, _, w0⟩ := DataW.trod_int Tryz.underlying5 t0
  obtain ⟨ia, items, ic, rfl, hI, hif⟩ := open_items t1
  obtain ⟨ca, calls, cc, rfl, hC, hcf⟩ := open_calls t2
  injection e0 with e0
  subst e0
  exact ⟨⟨f, items, calls⟩, ia, ca, ic, cc, ⟨rfl, hI, hC⟩, ⟨u8_of_wf w0, hif, hcf⟩⟩
end

end Go.Proofs.YtccmjljlfgbicaaGreat

/- A walk and acts that come in: their cells. -/
namespace Go.Proofs.YtccmjljlfgbicaaGreat
open Go.Joins Go.ChangeShapes Go.WideShapes Go.ChangeAt Go.RowKit Go.Deep

section
variable {H : Type} {enc : TypeId × Value → H} {P : Program}
/-- A struct of fields of a cell each, by value: its cells. -/
theorem open_aggN {w : World} {base : Nat} {spare : Nat → Bool} {held : Bool} {r : Reach} {b0 : Nat} {t : TypeId} {fs : Array Field} {v : Value} {d : DataW H} {p : List MemPlace} (hs : P.underlying t = some (.struct fs)) (hone : oneCellFields P fs = true) (hC : P.cellsOf t = fs.size)
    (hv : Value.okWide P w r b0 t v) (h : DataW.Trod enc P w base spare held t v d p) :
    ∃ cs : Array Value, v = .agg cs ∧ cs.size = fs.size ∧ ∀ (j : Nat) (f : Field), fs[j]? = some f → ∃ u y m, cs[j]? = some u ∧ DataW.trod enc P w base spare held m f.type [u] = some y := by
  obtain ⟨cs, rfl, hsz⟩ := okWide_struct hs hv
  obtain ⟨fuel, hf⟩ := h
  obtain ⟨xs, m, _, _, hl, hxl, hg⟩ := DataW.trod_struct hs hf
  refine ⟨cs, rfl, hsz.trans hC, fun j f hj => ?_⟩
  obtain ⟨ho, h1⟩ := hone_of hone j f hj
  have hjc : j < fs.size := (Array.getElem?_eq_some_iff.1 hj).1
  have hjl : j < cs.toList.length := by simp; omega
  obtain ⟨y, hy⟩ : ∃ y, xs[j]? = some y := ⟨_, List.getElem?_eq_getElem (by omega)⟩
  obtain ⟨u, hu⟩ : ∃ u, cs.toList[j]? = some u := ⟨_, List.getElem?_eq_getElem hjl⟩
  have hd : (cs.toList.drop j).take 1 = [u] := by
    rw [List.drop_eq_getElem_cons hjl]
    rw [List.getElem?_eq_getElem hjl] at hu
    injection hu with hu
    rw [hu]; rfl
  have h2 := hg j f hj
  rw [show (Value.agg cs).cells = cs from rfl, ho, h1, hd, hy] at h2
  exact ⟨u, y, m, by simpa using hu, h2⟩
end
theorem array10 {α : Type} {cs : Array α} (h : cs.size = 10) : ∃ c0 c1 c2 c3 c4 c5 c6 c7 c8 c9, cs = #[c0, c1, c2, c3, c4, c5, c6, c7, c8, c9] := by
  obtain ⟨l⟩ := cs
  match l, h with
  | [c0, c1, c2, c3, c4, c5, c6, c7, c8, c9], _ => exact ⟨c0, c1, c2, c3, c4, c5, c6, c7, c8, c9, rfl⟩

section
variable {H : Type} {enc : TypeId × Value → H} {w : World} {base : Nat} {spare : Nat → Bool} {held : Bool}
set_option maxRecDepth 100000 in
/-- A walk that comes in. -/
theorem open_walk {r : Reach} {b0 : Nat} {v : Value} {d : DataW H} {p : List MemPlace} (hv : Value.okWide Tryz.prog w r b0 74 v) (h : DataW.Trod enc Tryz.prog w base spare held 74 v d p) :
    ∃ x : Walk, v = x.val ∧ (0 ≤ x.next ∧ x.next ≤ 18446744073709551615) := by
  obtain ⟨cs, rfl, hsz, hg⟩ := open_aggN Tryz.underlying74 (by kernel_rfl) (by kernel_rfl) hv h
  obtain ⟨c0, c1, c2, c3, c4, c5, c6, c7, c8, c9, rfl⟩ := array10 hsz
  obtain ⟨v0, y0, _, e0, t0⟩ := hg 0 _ rfl
  obtain ⟨v1, y1, _, e1, t1⟩ := hg 1 _ rfl
  obtain ⟨v2, y2, _, e2, t2⟩ := hg 2 _ rfl
  obtain ⟨v3, y3, _, e3, t3⟩ := hg 3 _ rfl
  obtain ⟨v4, y4, _, e4, t4⟩ := hg 4 _ rfl
  obtain ⟨v5, y5, _, e5, t5⟩ := hg 5 _ rfl
  obtain ⟨v6, y6, _, e6, t6⟩ := hg 6 _ rfl
  obtain ⟨v7, y7, _, e7, t7⟩ := hg 7 _ rfl
  obtain ⟨v8, y8, _, e8, t8⟩ := hg 8 _ rfl
  obtain ⟨v9, y9, _, e9, t9⟩ := hg 9 _ rfl
  cases e0; cases e1; cases e2; cases e3; cases e4; cases e5; cases e6; cases e7; cases e8; cases e9
  obtain ⟨n0, k0, _, w0⟩ := DataW.trod_int Tryz.underlying26 t0
  obtain ⟨n1, k1, _, w1⟩ := DataW.trod_int Tryz.underlying3 t1
  obtain ⟨n2, k2, _, w2⟩ := DataW.trod_int Tryz.underlying3 t2
  obtain ⟨n3, k3, _, w3⟩ := DataW.trod_int Tryz.underlying3 t3
  obtain ⟨n4, k4, _, w4⟩ := DataW.trod_int Tryz.underlying3 t4
  obtain ⟨n5, k5, _, w5⟩ := DataW.trod_int Tryz.underlying26 t5
  obtain ⟨n6, k6, _, w6⟩ := DataW.trod_int Tryz.underlying3 t6
  obtain ⟨n7, k7, _, w7⟩ := DataW.trod_int Tryz.underlying3 t7
  obtain ⟨n8, k8, _⟩ := DataW.trod_bool Tryz.underlying4 t8
  obtain ⟨n9, k9, _⟩ := DataW.trod_bool Tryz.underlying4 t9
  injection k0 with k0; injection k1 with k1; injection k2 with k2; injection k3 with k3; injection k4 with k4
  injection k5 with k5; injection k6 with k6; injection k7 with k7; injection k8 with k8; injection k9 with k9
  subst k0; subst k1; subst k2; subst k3; subst k4; subst k5; subst k6; subst k7; subst k8; subst k9
  exact ⟨⟨n0, n1, n2, n3, n4, n5, n6, n7, n8, n9⟩, rfl, u64_of_wf w5⟩
end

/-- An act, and its cells. -/
structure GAct where
  kind : Int
  n : Int
  op : Int
  old : Int
  w : Int
def GAct.cells (a : GAct) : List Value := [.int .u8 a.kind, .int .i64 a.n, .int .u16 a.op, .int .u64 a.old, .int .u64 a.w]
abbrev GAct.v (a : GAct) : Value := .agg #[.int .u8 a.kind, .int .i64 a.n, .int .u16 a.op, .int .u64 a.old, .int .u64 a.w]
def GAct.fits (a : GAct) : Prop := (0 ≤ a.kind ∧ a.kind ≤ 255) ∧ (0 ≤ a.old ∧ a.old ≤ 18446744073709551615) ∧ (0 ≤ a.w ∧ a.w ≤ 18446744073709551615)
abbrev actsV (l : List GAct) : List Value := l.flatMap GAct.cells
theorem actsV_get {l : List GAct} {n : Nat} {i : GAct} (h : l[n]? = some i) : (actsV l)[n * 5]? = some (.int .u8 i.kind) ∧ (actsV l)[n * 5 + 1]? = some (.int .i64 i.n) ∧ (actsV l)[n * 5 + 2]? = some (.int .u16 i.op) ∧ (actsV l)[n * 5 + 3]? = some (.int .u64 i.old) ∧ (actsV l)[n * 5 + 4]? = some (.int .u64 i.w) := by
  induction l generalizing n with
  | nil => simp at h
  | cons a l ih =>
    cases n with
    | zero =>
      simp at h
      subst h
      exact ⟨rfl, rfl, rfl, rfl, rfl⟩
    | succ n =>
      simp at h
      have hc : a.cells.length = 5 := rfl
      have go : ∀ j, (actsV (a :: l))[(n + 1) * 5 + j]? = (actsV l)[n * 5 + j]? := by
        intro j
        show (a.cells ++ actsV l)[(n + 1) * 5 + j]? = _
        rw [List.getElem?_append_right (by omega), hc]
        congr 1
        omega
      obtain ⟨i0, i1, i2, i3, i4⟩ := ih h
      exact ⟨(go 0).trans i0, (go 1).trans i1, (go 2).trans i2, (go 3).trans i3, (go 4).trans i4⟩
theorem act_read {w : World} {ao : Option Addr} {l : List GAct} {n : Nat} {i : GAct} (h : ReadAt w ao (actsV l)) (hi : l[n]? = some i) : ∃ b o, ao = some ⟨b, o, none⟩ ∧ b < w.heap.size ∧
    w.cell? ⟨b, o + n * 5, none⟩ = some (.int .u8 i.kind) ∧ w.cell? ⟨b, o + n * 5 + 1, none⟩ = some (.int .i64 i.n) ∧ w.cell? ⟨b, o + n * 5 + 2, none⟩ = some (.int .u16 i.op) ∧ w.cell? ⟨b, o + n * 5 + 3, none⟩ = some (.int .u64 i.old) ∧ w.cell? ⟨b, o + n * 5 + 4, none⟩ = some (.int .u64 i.w) := by
  obtain ⟨i0, i1, i2, i3, i4⟩ := actsV_get hi
  obtain ⟨b, o, h1, h2⟩ := h _ _ i0
  have go : ∀ j u, (actsV l)[n * 5 + j]? = some u → w.cell? ⟨b, o + n * 5 + j, none⟩ = some u := by
    intro j u hu
    obtain ⟨b', o', h3, h4⟩ := h _ _ hu
    rw [h1] at h3
    injection h3 with h3
    injection h3 with e1 e2
    subst e1 e2
    rw [Nat.add_assoc]; exact h4
  exact ⟨b, o, h1, World.block_lt_of_cell? w _ h2, h2, go 1 _ i1, go 2 _ i2, go 3 _ i3, go 4 _ i4⟩

section
variable {H : Type} {enc : TypeId × Value → H} {w : World} {base : Nat} {spare : Nat → Bool} {held : Bool}
theorem open_acts {fuel : Nat} {v : Value} {x : DataW H × List MemPlace} (h : DataW.trod enc Tryz.prog w base spare held fuel 29 [v] = some x) :
    ∃ (ao : Option Addr) (l : List GAct) (cap : Nat), v = .slice ao l.length cap ∧ ReadAt w ao (actsV l) ∧ ∀ i ∈ l, i.fits := by
  rcases open_slice Tryz.underlying29 h with ⟨hv, _⟩ | ⟨a, len, cap, m, k, D, Pl, hv, _, hlc, _, hm, _, hf⟩
  · injection hv with hv
    exact ⟨none, [], 0, hv, fun j u hu => by simp [actsV] at hu, fun i hi => by cases hi⟩
  · injection hv with hv
    have hlm : len ≤ m := by rw [hm]; split <;> omega
    obtain ⟨l, hl, hp⟩ := choose_list (n := len) (P := fun i (it : GAct) => it.fits ∧ ∀ j u, it.cells[j]? = some u → w.cell? (a.add (i * 5 + j)) = some u) (by
      intro i hi
      obtain ⟨cs, hcs, htr⟩ := hf i (by omega)
      rw [show Tryz.prog.cellsOf 61 = 5 by kernel_rfl] at hcs
      have hg := fun (j : Nat) (f : Field) (hj : _) => field_at (j := j) (f := f) Tryz.underlying61 (by kernel_rfl) rfl hcs htr hj
      obtain ⟨v0, y0, _, c0, t0⟩ := hg 0 _ rfl
      obtain ⟨v1, y1, _, c1, t1⟩ := hg 1 _ rfl
      obtain ⟨v2, y2, _, c2, t2⟩ := hg 2 _ rfl
      obtain ⟨v3, y3, _, c3, t3⟩ := hg 3 _ rfl
      obtain ⟨v4, y4, _, c4, t4⟩ := hg 4 _ rfl
      rw [add_add] at c0 c1 c2 c3 c4
      obtain ⟨n0, e0, _, w0⟩ := DataW.trod_int Tryz.underlying5 t0
      obtain ⟨n1, e1, _, w1⟩ := DataW.trod_int Tryz.underlying3 t1
      obtain ⟨n2, e2, _, w2⟩ := DataW.trod_int Tryz.underlying59 t2
      obtain ⟨n3, e3, _, w3⟩ := DataW.trod_int Tryz.underlying26 t3
      obtain ⟨n4, e4, _, w4⟩ := DataW.trod_int Tryz.underlying26 t4
      injection e0 with e0; injection e1 with e1; injection e2 with e2; injection e3 with e3; injection e4 with e4
      subst e0; subst e1; subst e2; subst e3; subst e4
      refine ⟨⟨n0, n1, n2, n3, n4⟩, ⟨u8_of_wf w0, u64_of_wf w3, u64_of_wf w4⟩, ?_⟩
      intro j u hu
      match j, hu with
      | 0, hu => cases hu; exact c0
      | 1, hu => cases hu; exact c1
      | 2, hu => cases hu; exact c2
      | 3, hu => cases hu; exact c3
      | 4, hu => cases hu; exact c4
      | j + 5, hu => simp [GAct.cells] at hu)
    refine ⟨some a, l, cap, by rw [hl]; exact hv, readAt_rows (f := GAct.cells) (c := 5) (fun x => rfl) (by decide) fun i x hx => (hp i x hx).2, ?_⟩
    intro it hit
    obtain ⟨i, hi⟩ := List.getElem?_of_mem hit
    exact (hp i it hi).1
set_option maxRecDepth 100000 in
theorem open_acts_arg {r : Reach} {b0 : Nat} {v : Value} {d : DataW H} {p : List MemPlace} (hv : Value.okWide Tryz.prog w r b0 29 v) (h : DataW.Trod enc Tryz.prog w base spare held 29 v d p) :
    ∃ (ao : Option Addr) (l : List GAct) (cap : Nat), v = .slice ao l.length cap ∧ ReadAt w ao (actsV l) ∧ ∀ i ∈ l, i.fits := by
  obtain ⟨a, len, cap, rfl⟩ := okWide_slice Tryz.underlying29 hv
  obtain ⟨fuel, hf⟩ := h
  exact open_acts hf
end
end Go.Proofs.YtccmjljlfgbicaaGreat

/- Contract of corrieref07.Key: a region that draws, with an alloc that may come first. -/
namespace Go.Proofs.YtccmjljlfgbicaaGreat
open Go.ChangeShapes Go.WideShapes Go.ChangeAt Go.RowKit

theorem below_then {B : Nat} {w W w3 : World} (hb : Below W.heap.size W w3) (h : Below B w W) (hB : B ≤ w.heap.size) : Below B w w3 := h.trans (hb.mono (Nat.le_trans hB h.size))

theorem below_set {w w3 : World} (h : Below w.heap.size w w3) {g i : Nat} {u : Value} (hg : w.heap.size ≤ g) : Below w.heap.size w (w3.setCell ⟨g, i, none⟩ u) :=
  h.trans (((Only.refl (fun j => j = g) w3).set (p := ⟨g, i, none⟩) (.inl rfl) u).below h.size fun j hj e => by omega)
theorem row_lt_at {w : World} {g : Nat} {t : TypeId} {cs : Array Value} (h : At w g t cs) : g < w.heap.size := h.lt

set_option maxRecDepth 100000 in
set_option maxHeartbeats 400000 in
theorem rkey_any {r : RV} {s : St} (n : Int) (w : World) (h : BookIn w r s) (hs : s.ops.length ≤ 4096) (hn : s.nodes.length ≤ 8192) :
    Calls Tryz.prog 148 #[r.book s, .int .i64 n] w fun e w' => e = .returned (.int .u64 (s.key n)) ∧ Below w.heap.size w w' := by
  have H := Lib.hid (fun (W : World) (hb : Below w.heap.size w W) => h.below hb)
  have HK := Lib.hid (show s.key n = (s.call (s.carried n)).key from rfl)
  clear h
  have A0 := At.new w 43 (r.bcells s)
  go_enter Tryz.func148, Tryz.ntmps148
  go_wp2_with fail
  go_region_held3 (fun w' => w'.cell? ⟨w.heap.size, 0, none⟩ = some (.int .i64 s.c.threads) ∧ w'.cell? ⟨w.heap.size, 1, none⟩ = some (.int .i64 s.c.buckets) ∧ w'.cell? ⟨w.heap.size, 2, none⟩ = some (.int .i64 s.c.inserts) ∧ w'.cell? ⟨w.heap.size, 3, none⟩ = some (.int .i64 s.c.fuel) ∧ w'.cell? ⟨w.heap.size, 4, none⟩ = some (.int .i64 s.c.calls) ∧ w'.cell? ⟨w.heap.size, 5, none⟩ = some (.slice r.cs.1 s.thr.length r.cs.2) ∧ w'.cell? ⟨w.heap.size, 6, none⟩ = some (.slice r.is.1 s.thr.length r.is.2) ∧ w'.cell? ⟨w.heap.size, 7, none⟩ = some (.slice r.ms.1 s.thr.length r.ms.2) ∧ w'.cell? ⟨w.heap.size, 8, none⟩ = some (.slice r.os.1 s.ops.length r.os.2) ∧ w'.cell? ⟨w.heap.size, 9, none⟩ = some (.slice r.ns.1 s.nodes.length r.ns.2))
    (first | go_keep | exact (at10 K3).1 | exact (at10 K2).1 | exact (at10 (K3.alloc _)).1)
    ((first
      | (go_at_call 78
         refine (rcarried_any n _ (H.out _ ?hb) hn).mono ?_
         case hb => (repeat first | exact Below.refl _ _ | refine Below.drew ?_ | refine Below.alloc ?_ (by simp) _)
         rintro e w2 ⟨rfl, hb2⟩
         have BB2 : Below w.heap.size w w2 := (by refine below_then hb2 ?_ (Nat.le_refl _); repeat first | exact Below.refl _ _ | refine Below.drew ?_ | refine Below.alloc ?_ (by simp) _)
         have K2 : At w2 w.heap.size 43 (r.bcells s) := (by refine At.below' ?_ hb2; repeat first | with_reducible exact A0 | refine At.drew ?_ | refine At.alloc ?_ _)
         try (have Z2 : At w2 (w.heap.size + 1) 28 zero4 := (by refine At.below' ?_ hb2; refine At.drew ?_; with_reducible exact At.new1 w _ _ _)))
      | (go_at_call 119
         refine (rcall_any (s.carried n) _ (H.out _ ?hb) hs).mono ?_
         case hb => (repeat first | exact BB2 | refine Below.alloc ?_ BB2.size _)
         rintro e w3 ⟨rfl, hb3⟩
         have BB3 : Below w.heap.size w w3 := (by refine below_then hb3 ?_ (Nat.le_refl _); repeat first | exact BB2 | refine Below.alloc ?_ BB2.size _)
         have K3 : At w3 w.heap.size 43 (r.bcells s) := (by refine At.below' ?_ hb3; repeat first | with_reducible exact K2 | refine At.alloc ?_ _)
         have hl2 := row_lt_at K2
         have n1 : ¬ w2.heap.size = w.heap.size := by omega
         have n2 : ¬ w.heap.size = w2.heap.size := by omega
         first
           | (have Z3 : At w3 (w.heap.size + 1) 28 zero4 := (by refine At.below' ?_ hb3; with_reducible exact Z2)
              obtain ⟨⟨z0, z1, z2, z3⟩, zf, zl⟩ := at4 Z3)
           | (have Z3 : At w3 w2.heap.size 28 zero4 := (by refine At.below' ?_ hb3; with_reducible exact At.new w2 _ _)
              obtain ⟨⟨z0, z1, z2, z3⟩, zf, zl⟩ := at4 Z3)
           | skip)))
  all_goals
    go_wp2
    go_ret
    refine ⟨ret_u HK.out.symm, ?_⟩
    repeat first | exact BB3 | refine Below.alloc ?_ BB3.size _ | refine below_set ?_ (by omega)

end Go.Proofs.YtccmjljlfgbicaaGreat

/- Contract of corrieref10.arrive. -/
namespace Go.Proofs.YtccmjljlfgbicaaGreat
open Go.ChangeShapes Go.WideShapes Go.ChangeAt Go.RowKit

/-- A book of a size that may be. -/
def Sized (s : St) : Prop := s.ops.length ≤ 4096 ∧ s.nodes.length ≤ 8192
abbrev zeroW : Array Value := Walk.cells ⟨0, 0, 0, 0, 0, 0, 0, 0, false, false⟩

theorem At.drewN {w : World} {g : Nat} {t : TypeId} {cs : Array Value} (h : At w g t cs) (n : Nat) : At (w.drewN n) g t cs := h

set_option maxRecDepth 100000 in
set_option maxHeartbeats 600000 in
theorem rarrive_any {r : RV} {s : St} (x : Walk) (w : World) (h : RefIn w r s) (hz : Sized s) :
    Calls Tryz.prog 162 #[r.val s, x.val] w fun e w' => e = .returned (s.arrive x x.curr).val ∧ Below w.heap.size w w' := by
  have H := Lib.hid h
  have HZ := Lib.hid hz
  have A0 := ((At.new w 45 (r.cells s)).alloc (.cells x.cells 76)).alloc (.cells zeroW 76)
  have A1 := (At.new1 w (.cells (r.cells s) 45) 76 x.cells).alloc (.cells zeroW 76)
  have A2 : At (((w.alloc (.cells (r.cells s) 45)).alloc (.cells x.cells 76)).alloc (.cells zeroW 76)) (w.heap.size + 1 + 1) 76 zeroW := by
    have := At.new1 (w.alloc (.cells (r.cells s) 45)) (.cells x.cells 76) 76 zeroW
    rwa [World.size_alloc] at this
  have B0 : Below w.heap.size w (((w.alloc (.cells (r.cells s) 45)).alloc (.cells x.cells 76)).alloc (.cells zeroW 76)) := (below_twice w _ _).alloc (by simp; omega) _
  clear h hz
  by_cases h0 : x.curr = 0
  · have h0' : (x.curr == 0) = true := by simpa using h0
    have Ha := Lib.hid (show s.arrive x x.curr = { x with done := true } by unfold St.arrive; rw [if_pos (.inl h0)])
    clear h0
    go_enter Tryz.func162, Tryz.ntmps162
    go_wp2_with fail
    generalize (((w.alloc (.cells (r.cells s) 45)).alloc (.cells x.cells 76)).alloc (.cells zeroW 76)) = w0 at *
    obtain ⟨⟨y0, y1, y2, y3, y4, y5, y6, y7, y8, y9⟩, yf, yl⟩ := at10 A1
    obtain ⟨⟨z0, z1, z2, z3, z4, z5, z6, z7, z8, z9⟩, zf, zl⟩ := at10 A2
    clear A0
    go_quiet (fail)
    go_wp2_with fail
    have K2 : At (w0.drewN nq) (w.heap.size + 1 + 1) 76 zeroW := At.drewN A2 nq
    have B3 : Below w.heap.size w (w0.drewN nq) := bl_drewN B0 nq
    exact bodyPost_ret (v := Walk.val { x with done := true }) (res_cell (fn := Tryz.f162) Tryz.results162 _ _ (w.heap.size + 1 + 1) _ _ rfl (put10 (K2.far (p := ⟨w.heap.size + 1, 9, none⟩) (by simp) (.bool true)) _ _ _ _ _ _ _ _ _ _).1 Tryz.underlying76 rfl (by kernel_rfl)) rfl ⟨by rw [Ha.out], below_set (below_set (below_set (below_set (below_set (below_set (below_set (below_set (below_set (below_set (below_set B3 (by omega)) (by omega)) (by omega)) (by omega)) (by omega)) (by omega)) (by omega)) (by omega)) (by omega)) (by omega)) (by omega)⟩
  · have h0' : (x.curr == 0) = false := by simpa using h0
    go_enter Tryz.func162, Tryz.ntmps162
    go_wp2_with fail
    go_region_held3 (fun w' => w'.cell? ⟨w.heap.size, 7, none⟩ = some (.int .i64 s.c.threads) ∧ w'.cell? ⟨w.heap.size, 8, none⟩ = some (.int .i64 s.c.buckets) ∧ w'.cell? ⟨w.heap.size, 9, none⟩ = some (.int .i64 s.c.inserts) ∧ w'.cell? ⟨w.heap.size, 10, none⟩ = some (.int .i64 s.c.fuel) ∧ w'.cell? ⟨w.heap.size, 11, none⟩ = some (.int .i64 s.c.calls) ∧ w'.cell? ⟨w.heap.size, 12, none⟩ = some (.slice r.cs.1 s.thr.length r.cs.2) ∧ w'.cell? ⟨w.heap.size, 13, none⟩ = some (.slice r.is.1 s.thr.length r.is.2) ∧ w'.cell? ⟨w.heap.size, 14, none⟩ = some (.slice r.ms.1 s.thr.length r.ms.2) ∧ w'.cell? ⟨w.heap.size, 15, none⟩ = some (.slice r.os.1 s.ops.length r.os.2) ∧ w'.cell? ⟨w.heap.size, 16, none⟩ = some (.slice r.ns.1 s.nodes.length r.ns.2) ∧ w'.cell? ⟨w.heap.size + 1, 4, none⟩ = some (.int .i64 x.curr) ∧ w'.cell? ⟨w.heap.size + 1, 0, none⟩ = some (.int .u64 x.key))
      (first | go_keep | exact ⟨b7, b8, b9, b10, b11, b12, b13, b14, b15, b16, y4, y0⟩)
      ((first | (go_at_call 148; refine (rkey_any x.curr _ (H.out.book.below B0.drew) HZ.out.1 HZ.out.2).mono ?_; rintro e w2 ⟨rfl, hb2⟩; have K0 := A0.drew.below' hb2; have K1 := A1.drew.below' hb2; obtain ⟨⟨-, -, -, -, -, -, -, b7, b8, b9, b10, b11, b12, b13, b14, b15, b16⟩, bf, bl⟩ := at17 K0; obtain ⟨⟨y0, y1, y2, y3, y4, y5, y6, y7, y8, y9⟩, yf, yl⟩ := at10 K1)))
    have K2 := A2.drew.below' hb2
    obtain ⟨⟨z0, z1, z2, z3, z4, z5, z6, z7, z8, z9⟩, zf, zl⟩ := at10 K2
    have hs2 := hb2.size
    simp at hs2
    have B3 : Below w.heap.size w w2 := B0.drew.trans (hb2.mono (by simp; omega))
    clear b7 b8 b9 b10 b11 b12 b13 b14 b15 b16 bf bl K0 hb2 A0 A1 A2
    by_cases hk : x.key < s.key x.curr
    · have Ha := Lib.hid (show s.arrive x x.curr = { x with done := true } by unfold St.arrive; rw [if_pos (.inr hk)])
      go_wp2_with fail
      exact bodyPost_ret (v := Walk.val { x with done := true }) (res_cell (fn := Tryz.f162) Tryz.results162 _ _ (w.heap.size + 1 + 1) _ _ rfl (put10 (K2.far (p := ⟨w.heap.size + 1, 9, none⟩) (by simp) (.bool true)) _ _ _ _ _ _ _ _ _ _).1 Tryz.underlying76 rfl (by kernel_rfl)) rfl ⟨by rw [Ha.out], below_set (below_set (below_set (below_set (below_set (below_set (below_set (below_set (below_set (below_set (below_set B3 (by omega)) (by omega)) (by omega)) (by omega)) (by omega)) (by omega)) (by omega)) (by omega)) (by omega)) (by omega)) (by omega)⟩
    · have Ha := Lib.hid (show s.arrive x x.curr = { x with phase := 1 } by unfold St.arrive; rw [if_neg (by omega)])
      go_wp2_with fail
      exact bodyPost_ret (v := Walk.val { x with phase := 1 }) (res_cell (fn := Tryz.f162) Tryz.results162 _ _ (w.heap.size + 1 + 1) _ _ rfl (put10 (K2.far (p := ⟨w.heap.size + 1, 2, none⟩) (by simp) (.int .i64 1)) _ _ _ _ _ _ _ _ _ _).1 Tryz.underlying76 rfl (by kernel_rfl)) rfl ⟨by rw [Ha.out], below_set (below_set (below_set (below_set (below_set (below_set (below_set (below_set (below_set (below_set (below_set B3 (by omega)) (by omega)) (by omega)) (by omega)) (by omega)) (by omega)) (by omega)) (by omega)) (by omega)) (by omega)) (by omega)⟩

end Go.Proofs.YtccmjljlfgbicaaGreat

/- Regions that draw their order and lay two structs to hand back: what is kept. -/
namespace Go.Proofs.YtccmjljlfgbicaaGreat
open Go.ChangeShapes Go.WideShapes Go.ChangeAt Go.RowKit

theorem res_cells {P : Program} {fn : Func} {p q : Tmp} {tp tq : TypeId} (h : fn.results = #[.cell p tp, .cell q tq]) (tmps : Array Value) (w : World) (g g' : Nat) (cs cs' : Array Value) (d d' : TypeDesc)
    (hp : tmps.getD p undef = .pointer (some ⟨g, 0, none⟩)) (hq : tmps.getD q undef = .pointer (some ⟨g', 0, none⟩)) (hA : At w g tp cs) (hA' : At w g' tq cs')
    (hu : P.underlying tp = some d) (hd : (match d with | .struct _ | .array _ _ => true | _ => false) = true) (hi : (P.info? tp).map (·.size) = some cs.size)
    (hu' : P.underlying tq = some d') (hd' : (match d' with | .struct _ | .array _ _ => true | _ => false) = true) (hi' : (P.info? tq).map (·.size) = some cs'.size) :
    (results fn tmps).run P w = .ok (.tuple #[.agg cs, .agg cs']) w := by
  have e1 := run_loadVar_row (P := P) w g tp tp cs (0, 0) d hA hu hd hi
  have e2 := run_loadVar_row (P := P) w g' tq tq cs' (0, 0) d' hA' hu' hd' hi'
  simp only [results, h]
  rw [Array.getD_eq_getD_getElem?] at hp hq
  simp [Sem.run_bind, Result.andThen, hp, hq, asAddr, e1, e2]

/-- No two words beside one another. -/
def noTwo : List Value → Bool
  | .int .u64 _ :: .int .u64 _ :: _ => false
  | _ :: r => noTwo r
  | [] => true
theorem noTwo_get : ∀ {l : List Value} {o : Nat} {x y : Int}, noTwo l = true → l[o]? = some (.int .u64 x) → l[o + 1]? = some (.int .u64 y) → False
  | [], o, _, _, _, h, _ => by simp at h
  | a :: r, 0, x, y, hn, h1, h2 => by
    simp only [List.getElem?_cons_zero, Option.some.injEq] at h1
    subst h1
    cases r with
    | nil => simp at h2
    | cons b r =>
      simp only [Nat.zero_add, List.getElem?_cons_succ, List.getElem?_cons_zero, Option.some.injEq] at h2
      subst h2
      simp [noTwo] at hn
  | a :: r, o + 1, x, y, hn, h1, h2 => by
    rw [List.getElem?_cons_succ] at h1 h2
    refine noTwo_get (l := r) ?_ h1 h2
    unfold noTwo at hn
    split at hn
    · cases hn
    · rename_i e; injection e with e1 e2; subst e2; exact hn
    · rename_i e; cases e
theorem words_apart2 {w : World} {g : Nat} {t : TypeId} {cs : Array Value} {ao : Option Addr} {l : List Int} (h : ReadAt w ao (wordsV l)) (hA : At w g t cs) (hc : noTwo cs.toList = true) (hl : 2 ≤ l.length) : ∀ b o, ao = some ⟨b, o, none⟩ → ¬ b = g := by
  intro b o e hb
  subst hb
  have hlen : (wordsV l).length = l.length := by simp [wordsV]
  have get : ∀ j (hj : j < l.length), cs.toList[o + j]? = some (.int .u64 l[j]) := by
    intro j hj
    obtain ⟨b', o', h1, h2⟩ := h j (.int .u64 l[j]) (by simp [wordsV, hj])
    rw [e] at h1
    injection h1 with h1
    injection h1 with e1 e2
    subst e1 e2
    rw [hA.cell] at h2
    simpa using h2
  exact noTwo_get hc (get 0 (by omega)) (get 1 (by omega))
theorem words_two {s : St} (h : s.ok) : 2 ≤ s.words.length := by
  have h1 := h.len
  have h2 := nodes_bounds h.may
  have h3 := ops_bounds s.c
  have h4 := may_bounds h.may
  omega
theorem refin_only2 {w w' : World} {r : RV} {s : St} {g4 g5 : Nat} {t4 t5 : TypeId} {c4 c5 : Array Value} (h : RefIn w r s) (hl : 2 ≤ s.words.length) (a4 : At w g4 t4 c4) (a5 : At w g5 t5 c5) (n4 : noTwo c4.toList = true) (n5 : noTwo c5.toList = true)
    (hr : RowsOff r (fun j => j = g4 ∨ j = g5)) (ho : Only (fun j => j = g4 ∨ j = g5) w w') : RefIn w' r s :=
  ⟨h.words.only ho fun b o e _ k => k.elim (words_apart2 h.words a4 n4 hl b o e) (words_apart2 h.words a5 n5 hl b o e), h.book.only ho hr⟩
theorem refin_only1 {w w' : World} {r : RV} {s : St} {g4 : Nat} {t4 : TypeId} {c4 : Array Value} (h : RefIn w r s) (hl : 2 ≤ s.words.length) (a4 : At w g4 t4 c4) (n4 : noTwo c4.toList = true)
    (hr : RowsOff r (fun j => j = g4)) (ho : Only (fun j => j = g4) w w') : RefIn w' r s :=
  ⟨h.words.only ho fun b o e _ => words_apart2 h.words a4 n4 hl b o e, h.book.only ho hr⟩
theorem noTwo_rv (r : RV) (s : St) : noTwo (r.cells s).toList = true := rfl
theorem noTwo_zero17 : noTwo zero17.toList = true := by decide
theorem walk_one (x : Walk) : x.cells.all (·.oneCell') = true := by
  rw [Array.all_eq_true_iff_forall_mem]
  intro v hv
  simp at hv
  rcases hv with rfl | rfl | rfl | rfl | rfl | rfl | rfl | rfl | rfl | rfl <;> rfl
theorem noTwo_walk (x : Walk) : noTwo x.cells.toList = true := rfl

/-- Two structs are read and laid. -/
theorem wp_out4 {P : Program} {id : Nat} {Q : Exit → Act → World → Prop} {a : Act} {w : World} {o0 o1 o2 o3 : Oper} {T0 T1 : TypeId} {x0 x1 y0 y1 z0 z1 : Operand} {gX gW g4 g5 : Nat} {cs c0 cw c1 : Array Value} {d0 d1 : TypeDesc}
    (hm : P.follows .mixedOrders = true) (hB : (dstsOk [o0, o1, o2, o3] && inTs [o0, o1, o2, o3] a.tmps.size && acyc [o0, o1, o2, o3] 0) = true)
    (hg : o0.guard = none ∧ o1.guard = none ∧ o2.guard = none ∧ o3.guard = none)
    (ho0 : o0.op = .load T0 x0) (ho1 : o1.op = .load T1 x1) (ho2 : o2.op = .store T0 y0 z0) (ho3 : o3.op = .store T1 y1 z1)
    (ex0 : ∀ us, evF [o0, o1, o2, o3] us a x0 = .pointer (some ⟨gX, 0, none⟩)) (ex1 : ∀ us, evF [o0, o1, o2, o3] us a x1 = .pointer (some ⟨gW, 0, none⟩))
    (ey0 : ∀ us, evF [o0, o1, o2, o3] us a y0 = .pointer (some ⟨g4, 0, none⟩)) (ey1 : ∀ us, evF [o0, o1, o2, o3] us a y1 = .pointer (some ⟨g5, 0, none⟩))
    (ez0 : ∀ us, evF [o0, o1, o2, o3] us a z0 = us 0) (ez1 : ∀ us, evF [o0, o1, o2, o3] us a z1 = us 1)
    (h2 : 0 ∈ o2.after.toList.filterMap fun e => if Region.binds .any e then some e.on else none) (h3 : 1 ∈ o3.after.toList.filterMap fun e => if Region.binds .any e then some e.on else none)
    (aX : At w gX T0 cs) (aW : At w gW T1 cw) (a4 : At w g4 T0 c0) (a5 : At w g5 T1 c1)
    (nX4 : gX ≠ g4) (nX5 : gX ≠ g5) (nW4 : gW ≠ g4) (nW5 : gW ≠ g5) (n45 : g4 ≠ g5)
    (hu0 : P.underlying T0 = some d0) (hd0 : (match d0 with | .struct _ | .array _ _ => true | _ => false) = true) (hi0 : (P.info? T0).map (·.size) = some cs.size) (hs0 : c0.size = cs.size) (h10 : cs.all (·.oneCell') = true)
    (hu1 : P.underlying T1 = some d1) (hd1 : (match d1 with | .struct _ | .array _ _ => true | _ => false) = true) (hi1 : (P.info? T1).map (·.size) = some cw.size) (hs1 : c1.size = cw.size) (h11 : cw.all (·.oneCell') = true)
    (hend : ∀ us w', At w' g4 T0 cs → At w' g5 T1 cw → Only (fun j => j = g4 ∨ j = g5) w w' → Q .normal (fillA [o0, o1, o2, o3] us a) w') : (Code.region id #[o0, o1, o2, o3] true).wp P Q a w := by
  refine wp_region_J (l := [o0, o1, o2, o3]) (OutG 2 3 T0 T1 g4 g5 c0 cs c1 cw (fun j v => match j with | 0 => v = .agg cs | 1 => v = .agg cw | _ => True) w.drew) hm hB (fun us => OutG.start us a4 a5) ⟨?_, ?_, ?_, ?_, trivial⟩ ?_
  · intro dn us w6 A hev hy hG hdn hdep K hK
    refine step_list (wpl_load hg.1 T0 x0 ho0 gX (by rw [hev]; exact ex0 us) cs d0 (aX.drew.only hG.only fun k => k.elim nX4 nX5) hu0 hd0 hi0 ⟨rfl, ?_⟩)
    exact hK _ _ (hG.first (by decide) (by decide) rfl)
  · intro dn us w6 A hev hy hG hdn hdep K hK
    refine step_list (wpl_load hg.2.1 T1 x1 ho1 gW (by rw [hev]; exact ex1 us) cw d1 (aW.drew.only hG.only fun k => k.elim nW4 nW5) hu1 hd1 hi1 ⟨rfl, ?_⟩)
    exact hK _ _ (hG.first (by decide) (by decide) rfl)
  · intro dn us w6 A hev hy hG hdn hdep K hK
    have d0 : dn 0 = true := allD_mem hdep h2
    refine step_list (wpl_store hg.2.2.1 T0 y0 z0 ho2 g4 (by rw [hev]; exact ey0 us) cs c0 (by rw [hev, ez0 us]; exact hG.pre 0 (by decide) (by decide) d0) (hG.old0 hdn) hi0 hs0 h10 fun w7 A7 O7 => ⟨rfl, ?_⟩)
    exact hK _ _ (hG.laid0 (by decide) n45 O7 A7 _)
  · intro dn us w6 A hev hy hG hdn hdep K hK
    have d1 : dn 1 = true := allD_mem hdep h3
    refine step_list (wpl_store hg.2.2.2 T1 y1 z1 ho3 g5 (by rw [hev]; exact ey1 us) cw c1 (by rw [hev, ez1 us]; exact hG.pre 1 (by decide) (by decide) d1) (hG.old1 hdn) hi1 hs1 h11 fun w7 A7 O7 => ⟨rfl, ?_⟩)
    exact hK _ _ (hG.laid1 (by decide) n45 O7 A7 _)
  · intro dn us w6 hG hall
    have hO := hG.only
    exact hend us w6 (hG.out0 (hall 2 (by show 2 < 4; decide))) (hG.out1 (hall 3 (by show 3 < 4; decide))) ⟨hO.os, hO.tape, hO.output, hO.size, hO.block⟩

/-- One of the first operations, a call that leaves memory as it was; where what is told says nothing of memory. -/
theorem CallG.firstB {k m : Nat} {T : TypeId} {zero : Array Value} {F : Nat → Value → Prop} {tup : RV → List Value} {cs : RV → Array Value} {R : RV → World → Prop} {W w w' : World} {dn : Nat → Bool} {us : Nat → Value} (h : CallG k m T zero F tup cs R W dn us w) (hR : ∀ ρ w1 w2, R ρ w1 → R ρ w2) {i : Nat} {v : Value} (hi : i < k) (hv : F i v) (hb : Below w.heap.size w w') : CallG k m T zero F tup cs R W (updB dn i) (updN us i v) w' := by
  refine ⟨h.only.trans (below_only hb), fun e => (by rw [updB_ne (by omega)] at e ⊢; exact h.st e), fun j hj e => ?_, fun e => ?_, fun e => ?_, fun j hj e => ?_, fun e => ?_, fun j h1 hj e => ?_⟩
  · by_cases q : j = i
    · subst q; rw [updN_eq]; exact hv
    · rw [updB_ne q] at e; rw [updN_ne q]; exact h.pre j hj e
  · rw [updB_ne (by omega)] at e
    rw [updN_ne (by omega)]
    obtain ⟨ρ, a, b, _⟩ := h.call e
    exact ⟨ρ, a, hR ρ _ _ b, fun _ _ _ w'' _ => hR ρ _ w'' b⟩
  · rw [updB_ne (by omega)] at e ⊢; rw [updN_ne (by omega), updN_ne (by omega)]; exact h.mv e
  · rw [updB_ne (by omega)] at e ⊢; rw [updN_ne (by omega), updN_ne (by omega)]; exact h.ext j hj e
  · rw [updB_ne (by omega)] at e
    rw [updB_ne (by omega), updB_ne (by omega), updN_ne (by omega), updN_ne (by omega)]
    obtain ⟨g, a, b, c, d, f⟩ := h.box e
    exact ⟨g, a, b, Nat.lt_of_lt_of_le c hb.size, fun q => (d q).below' hb, fun q => ⟨(f q).1, fun ρ hρ => ((f q).2 ρ hρ).below' hb⟩⟩
  · rw [updB_ne (by omega)] at e ⊢; rw [updN_ne (by omega), updN_ne (by omega)]; exact h.asg j h1 hj e

/-- The four boxes of a function of a world and one struct more: both, and room for both to hand back. -/
structure Box4 (T1 : TypeId) (z1 : Array Value) (W : World) (cX cW : Array Value) (w : World) : Prop where
  a0 : At w W.heap.size 45 cX
  a1 : At w (W.heap.size + 1) T1 cW
  a2 : At w (W.heap.size + 1 + 1) 45 zero17
  a3 : At w (W.heap.size + 1 + 1 + 1) T1 z1
  below : Below W.heap.size W w
section
variable {T1 : TypeId} {z1 cX cW cW' : Array Value} {W w w' : World}
theorem Box4.new (T1 : TypeId) (z1 : Array Value) (W : World) (cX cW : Array Value) : Box4 T1 z1 W cX cW ((((W.alloc (.cells cX 45)).alloc (.cells cW T1)).alloc (.cells zero17 45)).alloc (.cells z1 T1)) := by
  refine ⟨(((At.new W _ _).alloc _).alloc _).alloc _, ((At.new1 W _ _ _).alloc _).alloc _, ?_, ?_, (((Below.refl _ W).alloc (Nat.le_refl _) _).alloc (by simp) _).alloc (by simp; omega) _ |>.alloc (by simp; omega) _⟩
  · have := (At.new1 (W.alloc (.cells cX 45)) (.cells cW T1) 45 zero17).alloc (.cells z1 T1)
    rwa [World.size_alloc] at this
  · have := At.new1 ((W.alloc (.cells cX 45)).alloc (.cells cW T1)) (.cells zero17 45) T1 z1
    rwa [World.size_alloc, World.size_alloc] at this
theorem Box4.move (h : Box4 T1 z1 W cX cW w) (hb : Below w.heap.size w w') : Box4 T1 z1 W cX cW w' :=
  ⟨h.a0.below' hb, h.a1.below' hb, h.a2.below' hb, h.a3.below' hb, h.below.trans (hb.mono (by have := h.a3.lt; omega))⟩
theorem Box4.walk (h : Box4 T1 z1 W cX cW w) (hA : At w' (W.heap.size + 1) T1 cW') (hO : Only (fun j => j = W.heap.size + 1) w w') : Box4 T1 z1 W cX cW' w' :=
  ⟨h.a0.only hO (by show ¬ _ = _; omega), hA, h.a2.only hO (by show ¬ _ = _; omega), h.a3.only hO (by show ¬ _ = _; omega), h.below.trans (hO.below (by have := h.a3.lt; omega) fun i hi e => by have e' : i = W.heap.size + 1 := e; omega)⟩
theorem Box4.far (h : Box4 T1 z1 W cX cW w) {o : Obj} (hO : Only (fun j => j = w.heap.size) (w.alloc o) w') : Box4 T1 z1 W cX cW w' :=
  h.move (((Below.refl _ w).alloc (Nat.le_refl _) o).trans (hO.below (by simp) fun i hi e => by have e' : i = w.heap.size := e; omega))
theorem Box4.under (h : Box4 T1 z1 W cX cW w) (hO : Only (fun j => j = W.heap.size + 1 + 1 ∨ j = W.heap.size + 1 + 1 + 1) w w') : Below W.heap.size W w' :=
  h.below.trans (hO.below (by have := h.a3.lt; omega) fun i hi e => by have e' : i = W.heap.size + 1 + 1 ∨ i = W.heap.size + 1 + 1 + 1 := e; omega)
theorem Box4.under' (h : Box4 T1 z1 W cX cW w) (hO : Only (fun j => j = W.heap.size + 1 + 1 ∨ j = W.heap.size + 1 + 1 + 1) w.drew w') : Below W.heap.size W w' :=
  h.under ⟨hO.os, hO.tape, hO.output, hO.size, hO.block⟩
theorem Box4.fin (_h : Box4 T1 z1 W cX cW w) {w3 w4 : World} {c4 c5 : Array Value} (A3 : At w3 (W.heap.size + 1 + 1) 45 c4) (O3 : Only (fun j => j = W.heap.size + 1 + 1) w w3) (A4 : At w4 (W.heap.size + 1 + 1 + 1) T1 c5) (O4 : Only (fun j => j = W.heap.size + 1 + 1 + 1) w3 w4) :
    At w4 (W.heap.size + 1 + 1) 45 c4 ∧ At w4 (W.heap.size + 1 + 1 + 1) T1 c5 ∧ Only (fun j => j = W.heap.size + 1 + 1 ∨ j = W.heap.size + 1 + 1 + 1) w w4 :=
  ⟨A3.only O4 (by show ¬ _ = _; omega), A4, (O3.mono fun _ _ => .inl).trans (O4.mono fun _ _ => .inr)⟩
end
theorem ref_out_same {P : Program} {f : Nat} {args : Array Value} {w : World} {r : RV} {s s1 : St} {u : Value} (hw : s1.words = s.words) (h : RefIn w r s) (hc : Calls P f args w fun e w' => e = .returned (.tuple #[r.val s1, u]) ∧ Below w.heap.size w w') : Calls P f args w (RefOut w r (fun v => .tuple #[v, u]) s1) :=
  hc.mono fun _ _ ⟨a, b⟩ => ⟨r.w, a, by rw [hw]; exact h.words.below b, b, .inl rfl⟩
theorem RefIn.load {w : World} {r : RV} {s : St} (h : RefIn w r s) (p : Int) : RefIn w r (s.load p) := ⟨h.words, h.book.cs, h.book.is, h.book.ms, h.book.os, h.book.ns, h.book.os0, h.book.ns0⟩
end Go.Proofs.YtccmjljlfgbicaaGreat

/- Contract of corrielaw09.act: something laid, in a world and in the document's answer. -/
namespace Go.Proofs.YtccmjljlfgbicaaGreat
open Go.ChangeShapes Go.WideShapes Go.ChangeAt Go.RowKit

abbrev GAct.c (a : GAct) : Array Value := #[.int .u8 a.kind, .int .i64 a.n, .int .u16 a.op, .int .u64 a.old, .int .u64 a.w]
/-- Something laid: a reference, or a word. -/
def St.act09 (s : St) (a : GAct) : St := if a.kind.tmod 2 = 0 then s.store (s.nextAt a.n) a.w else s.swap (s.wordAt a.n) a.old a.w
theorem Holds.new {k : Blks} {s0 s : St} {w w1 w2 : World} {S : Nat → Prop} (h0 : Holds k s0 w) (h : Holds k s w1) (ho : Only S w1 w2) (hS : ∀ i, S i → w.heap.size ≤ i) : Holds k s w2 := by
  have hb := h0.book.lt
  have hw := h0.world.lt
  have ho' := h0.own_lt
  refine h.keep ho (fun e => ?_) (fun e => ?_) (fun e => ?_) (fun e => ?_) (fun e => ?_) (fun e => ?_) (fun e => ?_) <;> have := hS _ e
  · omega
  · have := ho' _ (.inl rfl); omega
  · have := ho' _ (.inr (.inl rfl)); omega
  · omega
  · have := ho' _ (.inr (.inr (.inl rfl))); omega
  · have := ho' _ (.inr (.inr (.inr (.inl rfl)))); omega
  · have := ho' _ (.inr (.inr (.inr (.inr rfl)))); omega
theorem Only.thenNew {S T : Nat → Prop} {w w1 w2 : World} (h : Only S w w1) (h2 : Only T w1 w2) (hT : ∀ i, T i → w.heap.size ≤ i) : Only S w w2 :=
  ⟨h2.os.trans h.os, h2.tape.trans h.tape, h2.output.trans h.output, Nat.le_trans h.size h2.size, fun i hi hs => (h2.block i (Nat.lt_of_lt_of_le hi h.size) fun e => by have := hT i e; omega).trans (h.block i hi hs)⟩
theorem Aside.next' {k : Blks} {r : RV} {n : Nat} (ha : Aside k r) {p : Sl} (hf : Fr n r.w.1 p.1) (hn : ∀ i, Own k i → i < n) : Aside k { r with w := p } :=
  ⟨⟨ha.rows.cs, ha.rows.is, ha.rows.ms, ha.rows.os, ha.rows.ns⟩, hf.off (N := Own k) ha.words hn⟩

set_option maxRecDepth 100000 in
set_option maxHeartbeats 4000000 in
theorem act91_any {k : Blks} {r : RV} {s : St} (a : GAct) (w : World) (h : Both k r s w) (ha : a.fits) (hk : a.kind.tmod 2 = 0) :
    Calls Tryz.prog 42 #[.pointer (some ⟨k.bw, 0, none⟩), r.val s, .agg a.c] w fun e w' => ∃ p : Sl, e = .returned (RV.val { r with w := p } (s.act09 a)) ∧ Both k { r with w := p } (s.act09 a) w' ∧ Only (Own k) w w' := by
  have H := Lib.hid h
  have HA := Lib.hid ha
  have HOK := Lib.hid h.holds.ok
  have HTH := Lib.hid (show 0 < s.thr.length by have := h.holds.ok.thr; have := may_bounds h.holds.ok.may; omega)
  have hwl : 2 ≤ (s.store (s.nextAt a.n) a.w).words.length := by have := store_len s (s.nextAt a.n) a.w; have := words_two h.holds.ok; omega
  have hen : s.act09 a = (s.store (s.nextAt a.n) a.w) := by unfold St.act09; exact if_pos hk
  have HE := Lib.hid hen
  have HW := Lib.hid hwl
  have hk1 : (a.kind.tmod 2 == 0) = true := by rw [hk]; rfl
  have A0 := ((At.new w 45 (r.cells s)).alloc (.cells a.c 61)).alloc (.cells zero17 45)
  have A1 := (At.new1 w (.cells (r.cells s) 45) 61 a.c).alloc (.cells zero17 45)
  have A2 := At.new1 (w.alloc (.cells (r.cells s) 45)) (.cells a.c 61) 45 zero17
  rw [World.size_alloc] at A2
  have D0 : Below w.heap.size w (((w.alloc (.cells (r.cells s) 45)).alloc (.cells a.c 61)).alloc (.cells zero17 45)) := (below_twice w _ _).alloc (by simp; omega) _
  clear h ha hwl hen hk
  go_enter Tryz.func42, Tryz.ntmps42
  go_upto_region 1 with fail
  generalize ((w.alloc (.cells (r.cells s) 45)).alloc (.cells a.c 61)).alloc (.cells zero17 45) = w0 at *
  obtain ⟨c0, c1, -, c3, c4⟩ := at5 A1
  have N0 : ¬ Own k w.heap.size := fun e => by have := H.out.holds.own_lt _ e; omega
  have N1 : ¬ Own k (w.heap.size + 1) := fun e => by have := H.out.holds.own_lt _ e; omega
  have N2 : ¬ Own k (w.heap.size + 1 + 1) := fun e => by have := H.out.holds.own_lt _ e; omega
  have H0 := H.out.below D0
  have HB0 := Lib.hid H0
  clear H0
  have hka : IntKind.u8.wrap (a.kind.tmod 2) = a.kind.tmod 2 := by
    have := HA.out.1
    rw [Int.tmod_eq_emod_of_nonneg this.1]
    exact IntWalk.u8_in _ (by omega)
  go_wp2_with (first
    | (refine wpl_st rfl 45 _ _ rfl (RV.cells { r with w := p' } (s.store (s.nextAt a.n) a.w)) rfl _ rfl C2 (by kernel_rfl) rfl rfl rfl ?_; intro w3 A3 O3)
    | (go_at_call 67; refine (rwset_any a.n a.w w1 HR1.out HOK.out).mono ?_; rintro e w2 ⟨p', rfl, hr2, hb2, hf2⟩; have C2 := B2.below' hb2)
    | (refine wpl_ld rfl 45 _ rfl (r.cells s) rfl _ B0 Tryz.underlying45 rfl (by kernel_rfl) rfl ?_)
    | (go_at_call 59; refine (wset_any a.n a.w w0 HB0.out.holds HA.out.2.2).mono ?_; rintro e w1 ⟨rfl, hH1, hO1⟩; obtain ⟨d0, d1, -, d3, d4⟩ := at5 (A1.only hO1 N1); have B0 := A0.only hO1 N0; have B2 := A2.only hO1 N2; have HR1 := Lib.hid (HB0.out.ref.aside HB0.out.aside hO1)))
  have hrd := hr2.only O3 fun b o e _ => words_apart2 hr2 C2 noTwo_zero17 HW.out b o e
  have hb3 : Below w1.heap.size w1 w2 := hb2
  have hH3 := Holds.new H.out.holds (hH1.below hb2) O3 fun i e => by have e' : i = w.heap.size + 1 + 1 := e; omega
  have hBk := (((HR1.out.book.below hb2).only O3 ((rows_lt H.out.ref.book HTH.out).imp fun b e => by have e' : b = w.heap.size + 1 + 1 := e; omega)).other (s' := (s.store (s.nextAt a.n) a.w)) rfl rfl rfl p' : BookIn w3 { r with w := p' } (s.store (s.nextAt a.n) a.w))
  have hO : Only (Own k) w w3 := ((Only.ofBelow _ D0).trans (hO1.thenBelow hb2)).thenNew O3 fun i e => by have e' : i = w.heap.size + 1 + 1 := e; omega
  exact bodyPost_ret (v := RV.val { r with w := p' } (s.store (s.nextAt a.n) a.w)) (res_cell (fn := Tryz.f42) Tryz.results42 _ _ (w.heap.size + 1 + 1) _ _ rfl A3 Tryz.underlying45 rfl (by kernel_rfl)) rfl ⟨p', by rw [HE.out], by rw [HE.out]; exact ⟨hH3, ⟨hrd, hBk⟩, H.out.aside.next' hf2 (fun i e => by have := H.out.holds.own_lt i e; have := D0.size; have := hO1.size; omega)⟩, hO⟩

set_option maxRecDepth 100000 in
set_option maxHeartbeats 4000000 in
theorem act92_any {k : Blks} {r : RV} {s : St} (a : GAct) (w : World) (h : Both k r s w) (ha : a.fits) (hk : ¬ a.kind.tmod 2 = 0) :
    Calls Tryz.prog 42 #[.pointer (some ⟨k.bw, 0, none⟩), r.val s, .agg a.c] w fun e w' => ∃ p : Sl, e = .returned (RV.val { r with w := p } (s.act09 a)) ∧ Both k { r with w := p } (s.act09 a) w' ∧ Only (Own k) w w' := by
  have H := Lib.hid h
  have HA := Lib.hid ha
  have HOK := Lib.hid h.holds.ok
  have HTH := Lib.hid (show 0 < s.thr.length by have := h.holds.ok.thr; have := may_bounds h.holds.ok.may; omega)
  have hwl : 2 ≤ (s.swap (s.wordAt a.n) a.old a.w).words.length := by rw [swap_len]; exact words_two h.holds.ok
  have hen : s.act09 a = (s.swap (s.wordAt a.n) a.old a.w) := by unfold St.act09; exact if_neg hk
  have HE := Lib.hid hen
  have HW := Lib.hid hwl
  have hk1 : (a.kind.tmod 2 == 0) = false := by rw [beq_eq_false_iff_ne]; exact hk
  have A0 := ((At.new w 45 (r.cells s)).alloc (.cells a.c 61)).alloc (.cells zero17 45)
  have A1 := (At.new1 w (.cells (r.cells s) 45) 61 a.c).alloc (.cells zero17 45)
  have A2 := At.new1 (w.alloc (.cells (r.cells s) 45)) (.cells a.c 61) 45 zero17
  rw [World.size_alloc] at A2
  have D0 : Below w.heap.size w (((w.alloc (.cells (r.cells s) 45)).alloc (.cells a.c 61)).alloc (.cells zero17 45)) := (below_twice w _ _).alloc (by simp; omega) _
  clear h ha hwl hen hk
  go_enter Tryz.func42, Tryz.ntmps42
  go_upto_region 1 with fail
  generalize ((w.alloc (.cells (r.cells s) 45)).alloc (.cells a.c 61)).alloc (.cells zero17 45) = w0 at *
  obtain ⟨c0, c1, -, c3, c4⟩ := at5 A1
  have N0 : ¬ Own k w.heap.size := fun e => by have := H.out.holds.own_lt _ e; omega
  have N1 : ¬ Own k (w.heap.size + 1) := fun e => by have := H.out.holds.own_lt _ e; omega
  have N2 : ¬ Own k (w.heap.size + 1 + 1) := fun e => by have := H.out.holds.own_lt _ e; omega
  have H0 := H.out.below D0
  have HB0 := Lib.hid H0
  clear H0
  have hka : IntKind.u8.wrap (a.kind.tmod 2) = a.kind.tmod 2 := by
    have := HA.out.1
    rw [Int.tmod_eq_emod_of_nonneg this.1]
    exact IntWalk.u8_in _ (by omega)
  go_wp2_with (first
    | (refine wpl_st rfl 45 _ _ rfl (RV.cells { r with w := p' } (s.swap (s.wordAt a.n) a.old a.w)) rfl _ rfl C2b (by kernel_rfl) rfl rfl rfl ?_; intro w3 A3 O3)
    | (refine wpl_ld rfl 45 _ rfl (RV.cells { r with w := p' } (s.swap (s.wordAt a.n) a.old a.w)) rfl _ Ab Tryz.underlying45 rfl (by kernel_rfl) rfl ?_)
    | (refine wpl_st rfl 45 _ _ rfl (RV.cells { r with w := p' } (s.swap (s.wordAt a.n) a.old a.w)) rfl _ rfl (At.new w2 _ _) (by kernel_rfl) rfl rfl rfl ?_; intro wb Ab Ob
       have Db : Below w2.heap.size w2 wb := ((Below.refl _ w2).alloc (Nat.le_refl _) _).trans (Ob.below (by simp) fun j hj e => by have e' : j = w2.heap.size := e; omega)
       have C2b := C2.below' Db)
    | (go_at_call 64; refine (rwturn_any a.n a.old a.w w1 HR1.out HOK.out).mono ?_; rintro e w2 ⟨p', rfl, hr2, hb2, hf2⟩; have C2 := B2.below' hb2)
    | (refine wpl_ld rfl 45 _ rfl (r.cells s) rfl _ B0 Tryz.underlying45 rfl (by kernel_rfl) rfl ?_)
    | (go_at_call 47; refine (wturn_any a.n a.old a.w w0 HB0.out.holds HA.out.2.2).mono ?_; rintro e w1 ⟨rfl, hH1, hO1⟩; obtain ⟨d0, d1, -, d3, d4⟩ := at5 (A1.only hO1 N1); have B0 := A0.only hO1 N0; have B2 := A2.only hO1 N2; have HR1 := Lib.hid (HB0.out.ref.aside HB0.out.aside hO1)))
  have hb3 := hb2.trans (Db.mono hb2.size)
  have hrb := hr2.below Db
  have hrd := hrb.only O3 fun b o e _ => words_apart2 hrb C2b noTwo_zero17 HW.out b o e
  have hH3 := Holds.new H.out.holds (hH1.below hb3) O3 fun i e => by have e' : i = w.heap.size + 1 + 1 := e; omega
  have hBk := (((HR1.out.book.below hb3).only O3 ((rows_lt H.out.ref.book HTH.out).imp fun b e => by have e' : b = w.heap.size + 1 + 1 := e; omega)).other (s' := (s.swap (s.wordAt a.n) a.old a.w)) rfl rfl rfl p' : BookIn w3 { r with w := p' } (s.swap (s.wordAt a.n) a.old a.w))
  have hO : Only (Own k) w w3 := ((Only.ofBelow _ D0).trans (hO1.thenBelow hb3)).thenNew O3 fun i e => by have e' : i = w.heap.size + 1 + 1 := e; omega
  exact bodyPost_ret (v := RV.val { r with w := p' } (s.swap (s.wordAt a.n) a.old a.w)) (res_cell (fn := Tryz.f42) Tryz.results42 _ _ (w.heap.size + 1 + 1) _ _ rfl A3 Tryz.underlying45 rfl (by kernel_rfl)) rfl ⟨p', by rw [HE.out], by rw [HE.out]; exact ⟨hH3, ⟨hrd, hBk⟩, H.out.aside.next' hf2 (fun i e => by have := H.out.holds.own_lt i e; have := D0.size; have := hO1.size; omega)⟩, hO⟩

theorem act09_any {k : Blks} {r : RV} {s : St} (a : GAct) (w : World) (h : Both k r s w) (ha : a.fits) :
    Calls Tryz.prog 42 #[.pointer (some ⟨k.bw, 0, none⟩), r.val s, .agg a.c] w fun e w' => ∃ p : Sl, e = .returned (RV.val { r with w := p } (s.act09 a)) ∧ Both k { r with w := p } (s.act09 a) w' ∧ Only (Own k) w w' := by
  by_cases hk : a.kind.tmod 2 = 0
  · exact act91_any a w h ha hk
  · exact act92_any a w h ha hk
end Go.Proofs.YtccmjljlfgbicaaGreat

