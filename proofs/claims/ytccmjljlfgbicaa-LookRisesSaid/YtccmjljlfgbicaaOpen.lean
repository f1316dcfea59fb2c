/- A scene that comes in: its cells. -/
import Derived.Test.YtccmjljlfgbicaaLayA
import Derived.Lib.SmallJoins
import Derived.Deep.Slices
import Derived.Deep.Fields
import Derived.ChangeSame
import Derived.Below
import Derived.DataShut
import Derived.Carry
import Derived.OpenShut
namespace Go.Proofs.Ytccmjljlfgbicaa
open Go.Joins Go.ChangeShapes Go.WideShapes Go.ChangeAt Go.RowKit Go.Deep

section
variable {H : Type} {enc : TypeId × Value → H} {P : Program}
/-- A thing's fields, of a cell each, where the thing lies. -/
theorem field_at {w : World} {base : Nat} {spare : Nat → Bool} {held : Bool} {e : TypeId} {fs : Array Field} {c n : Nat} {a : Addr} {cs : List Value} {x : DataW H × List MemPlace} (he : P.underlying e = some (.struct fs)) (hone : oneCellFields P fs = true) (hc : fs.size = c)
    (hcs : w.cells? base a c = some cs) (ht : DataW.trod enc P w base spare held n e cs = some x) {j : Nat} {f : Field} (hj : fs[j]? = some f) :
    ∃ v y m, w.cell? (a.add j) = some v ∧ DataW.trod enc P w base spare held m f.type [v] = some y := by
  obtain ⟨xs, m, _, _, _, hxl, hg⟩ := DataW.trod_struct he ht
  obtain ⟨_, hlen, hat⟩ := World.cells?_some hcs
  have hjc : j < c := hc ▸ (Array.getElem?_eq_some_iff.1 hj).1
  obtain ⟨ho, h1⟩ := hone_of hone j f hj
  obtain ⟨v, hv⟩ : ∃ v, cs[j]? = some v := ⟨_, List.getElem?_eq_getElem (by omega)⟩
  obtain ⟨y, hy⟩ : ∃ y, xs[j]? = some y := ⟨_, List.getElem?_eq_getElem (by omega)⟩
  have hd : (cs.drop j).take 1 = [v] := by
    have hjl : j < cs.length := by omega
    rw [List.drop_eq_getElem_cons hjl]
    rw [List.getElem?_eq_getElem hjl] at hv
    injection hv with hv
    rw [hv]; rfl
  have h2 := hg j f hj
  rw [ho, h1, hd, hy] at h2
  exact ⟨v, y, m, (hat j hjc).trans hv, h2⟩

/-- The row's last step: the world is the old one, but for new blocks; nothing is held beside the arguments. -/
theorem post_new {f : Func} {s : ChangeSpec} {apart fresh handsOn again : Bool} {W W' : World} {args : Array Value} {v : Value} {ds : List (DataW H)} {places : List MemPlace}
    (hW : DataW.Whole enc P f.params.toList s.vars apart W args.toList ds [] places) (hb : Below W.heap.size W W')
    (hr : ∀ (b : Nat) (sp : Nat → Bool) (hd : Bool), DataW.TrodAll enc P W' b sp hd f.resultTypes.toList (v.resultList f.resultTypes.size) (s.fn H (ds ++ [])).results [])
    (ha : ∀ sp : Nat → Bool, (∀ p ∈ places, sp p.block = true) → DataW.TrodAll enc P W' 0 sp true f.params.toList args.toList (s.fn H (ds ++ [])).args places)
    (hv : ∀ sp : Nat → Bool, DataW.TrodVars enc P W' sp s.vars (s.fn H (ds ++ [])).vars [])
    (hok : ∀ (j : Nat) (t : TypeId) (r : Value), f.resultTypes[j]? = some t → (v.resultList f.resultTypes.size)[j]? = some r → Value.okWide P W' .any 0 t r) :
    s.post enc P f apart fresh handsOn again W args v W' := by
  have hlt := fun p hp => hW.lt p hp
  refine ⟨ds, [], places, [], places, [], hW, hr _ _ _, ha _ fun p hp => decide_eq_true (hlt p hp), hv _, World.keptBut_mono (fun p hp => ⟨hp, .inr (by simpa using hp)⟩) (hb.frame (· ∈ places)), fun _ => ⟨hok, ?_⟩⟩
  obtain ⟨_, _, _, _, _, hz, hn⟩ := hW
  refine ⟨_, _, _, ⟨[] ++ places, [], trodAll_append (ha _ fun _ _ => rfl) (hr _ _ _), hv _, rfl, ?_, ?_⟩, ?_⟩
  · intro b off hp
    have hin : MemPlace.cell b off ∈ places := by simpa using hp
    exact (hb.frozen (hlt _ hin)).trans (hz b off hin)
  · intro hap; simpa using hn hap
  · intro p hp _; simpa using hp
end

theorem choose_list {α : Type} {n : Nat} {P : Nat → α → Prop} (h : ∀ i, i < n → ∃ x, P i x) : ∃ l : List α, l.length = n ∧ ∀ i x, l[i]? = some x → P i x := by
  induction n with
  | zero => exact ⟨[], rfl, fun i x h => by simp at h⟩
  | succ n ih =>
    obtain ⟨l, hl, hp⟩ := ih fun i hi => h i (by omega)
    obtain ⟨y, hy⟩ := h n (by omega)
    refine ⟨l ++ [y], by simp [hl], fun i x hx => ?_⟩
    by_cases hi : i < l.length
    · rw [List.getElem?_append_left hi] at hx; exact hp i x hx
    · have hlen : i < (l ++ [y]).length := (List.getElem?_eq_some_iff.1 hx).1
      have e : i = n := by simp at hlen; omega
      subst e
      rw [List.getElem?_append_right (by omega)] at hx
      simp [hl] at hx
      exact hx ▸ hy
theorem u64_of_wf {n : Int} (h : (Lit.int .u64 n).wf = true) : 0 ≤ n ∧ n ≤ 18446744073709551615 := by
  have := (Lit.wf_int_iff .u64 n).1 h
  simpa [IntKind.min, IntKind.max, IntKind.signed, IntKind.bits] using this
theorem u8_of_wf {n : Int} (h : (Lit.int .u8 n).wf = true) : 0 ≤ n ∧ n ≤ 255 := by
  have := (Lit.wf_int_iff .u8 n).1 h
  simpa [IntKind.min, IntKind.max, IntKind.signed, IntKind.bits] using this
theorem spot_none {w : World} {a : Addr} {v : Value} (h : w.cell? a = some v) : a.spot = none := by
  unfold World.cell? at h
  split at h
  · split at h
    · cases h
    · rename_i hs
      cases hsp : a.spot with
      | none => rfl
      | some k => rw [hsp] at hs; simp at hs
  · cases h
theorem addr_add {a : Addr} (hs : a.spot = none) (n : Nat) : a.add n = ⟨a.block, a.off + n, none⟩ := by
  obtain ⟨b, o, s⟩ := a
  simp only at hs
  subst hs
  exact Addr.add_lit _ _ _

/-- A row of things of n cells each: where it is told by its things. -/
theorem readAt_rows {α : Type} {f : α → List Value} {c : Nat} (hc : ∀ x, (f x).length = c) (hc0 : 0 < c) {w : World} {a : Addr} {l : List α} (h : ∀ i x, l[i]? = some x → ∀ j u, (f x)[j]? = some u → w.cell? (a.add (i * c + j)) = some u) : ReadAt w (some a) (l.flatMap f) := by
  have hget : ∀ (l : List α) j u, (l.flatMap f)[j]? = some u → ∃ i x r, l[i]? = some x ∧ (f x)[r]? = some u ∧ j = i * c + r := by
    intro l
    induction l with
    | nil => intro j u h; simp at h
    | cons y l ih =>
      intro j u h
      rw [List.flatMap_cons] at h
      by_cases hj : j < c
      · rw [List.getElem?_append_left (by rw [hc]; exact hj)] at h
        exact ⟨0, y, j, rfl, h, by omega⟩
      · rw [List.getElem?_append_right (by rw [hc]; omega), hc] at h
        obtain ⟨i, x, r, h1, h2, h3⟩ := ih _ _ h
        exact ⟨i + 1, x, r, by rw [List.getElem?_cons_succ]; exact h1, h2, by rw [Nat.add_mul]; omega⟩
  intro j u hu
  obtain ⟨i, x, r, h1, h2, rfl⟩ := hget l j u hu
  obtain ⟨y, hy⟩ : ∃ y, l[0]? = some y := by
    cases l with
    | nil => simp at h1
    | cons y l => exact ⟨y, rfl⟩
  obtain ⟨v0, hv0⟩ : ∃ v0, (f y)[0]? = some v0 := ⟨_, List.getElem?_eq_getElem (by rw [hc]; exact hc0)⟩
  have hs : a.spot = none := spot_none (by simpa [Addr.add] using h 0 y hy 0 v0 hv0)
  refine ⟨a.block, a.off, by rw [← hs], ?_⟩
  have := h i x h1 r u h2
  rwa [addr_add hs] at this

section
variable {H : Type} {enc : TypeId × Value → H} {w : World} {base : Nat} {spare : Nat → Bool} {held : Bool}
theorem open_items {fuel : Nat} {v : Value} {x : DataW H × List MemPlace} (h : DataW.trod enc Try.prog w base spare held fuel 22 [v] = some x) :
    ∃ (ao : Option Addr) (l : List GItem) (cap : Nat), v = .slice ao l.length cap ∧ ReadAt w ao (itemsV l) ∧ ∀ i ∈ l, i.fits := by
  rcases open_slice Try.underlying22 h with ⟨hv, _⟩ | ⟨a, len, cap, m, k, D, Pl, hv, _, hlc, _, hm, _, hf⟩
  · injection hv with hv
    exact ⟨none, [], 0, hv, fun j u hu => by simp [itemsV] at hu, fun i hi => by cases hi⟩
  · injection hv with hv
    have hlm : len ≤ m := by rw [hm]; split <;> omega
    obtain ⟨l, hl, hp⟩ := choose_list (n := len) (P := fun i (it : GItem) => it.fits ∧ ∀ j u, it.cells[j]? = some u → w.cell? (a.add (i * 5 + j)) = some u) (by
      intro i hi
      obtain ⟨cs, hcs, htr⟩ := hf i (by omega)
      rw [show Try.prog.cellsOf 74 = 5 by kernel_rfl] at hcs
      have hg := fun (j : Nat) (f : Field) (hj : _) => field_at (j := j) (f := f) Try.underlying74 (by kernel_rfl) rfl hcs htr hj
      obtain ⟨v0, y0, _, c0, t0⟩ := hg 0 _ rfl
      obtain ⟨v1, y1, _, c1, t1⟩ := hg 1 _ rfl
      obtain ⟨v2, y2, _, c2, t2⟩ := hg 2 _ rfl
      obtain ⟨v3, y3, _, c3, t3⟩ := hg 3 _ rfl
      obtain ⟨v4, y4, _, c4, t4⟩ := hg 4 _ rfl
      rw [add_add] at c0 c1 c2 c3 c4
      obtain ⟨n0, e0, _, w0⟩ := DataW.trod_int Try.underlying26 t0
      obtain ⟨n1, e1, _, w1⟩ := DataW.trod_int Try.underlying26 t1
      obtain ⟨n2, e2, _, w2⟩ := DataW.trod_int Try.underlying26 t2
      obtain ⟨b3, e3, _⟩ := DataW.trod_bool Try.underlying4 t3
      obtain ⟨b4, e4, _⟩ := DataW.trod_bool Try.underlying4 t4
      injection e0 with e0; injection e1 with e1; injection e2 with e2; injection e3 with e3; injection e4 with e4
      subst e0; subst e1; subst e2; subst e3; subst e4
      refine ⟨⟨n0, n1, n2, b3, b4⟩, ⟨u64_of_wf w0, u64_of_wf w1, u64_of_wf w2⟩, ?_⟩
      intro j u hu
      match j, hu with
      | 0, hu => cases hu; exact c0
      | 1, hu => cases hu; exact c1
      | 2, hu => cases hu; exact c2
      | 3, hu => cases hu; exact c3
      | 4, hu => cases hu; exact c4
      | j + 5, hu => simp [GItem.cells] at hu)
    refine ⟨some a, l, cap, by rw [hl]; exact hv, readAt_rows (f := GItem.cells) (c := 5) (fun x => rfl) (by decide) fun i x hx => (hp i x hx).2, ?_⟩
    intro it hit
    obtain ⟨i, hi⟩ := List.getElem?_of_mem hit
    exact (hp i it hi).1
theorem open_calls {fuel : Nat} {v : Value} {x : DataW H × List MemPlace} (h : DataW.trod enc Try.prog w base spare held fuel 23 [v] = some x) :
    ∃ (ao : Option Addr) (l : List GCall) (cap : Nat), v = .slice ao l.length cap ∧ ReadAt w ao (callsV l) ∧ ∀ i ∈ l, i.fits := by
  rcases open_slice Try.underlying23 h with ⟨hv, _⟩ | ⟨a, len, cap, m, k, D, Pl, hv, _, hlc, _, hm, _, hf⟩
  · injection hv with hv
    exact ⟨none, [], 0, hv, fun j u hu => by simp [callsV] at hu, fun i hi => by cases hi⟩
  · injection hv with hv
    have hlm : len ≤ m := by rw [hm]; split <;> omega
    obtain ⟨l, hl, hp⟩ := choose_list (n := len) (P := fun i (it : GCall) => it.fits ∧ ∀ j u, it.cells[j]? = some u → w.cell? (a.add (i * 4 + j)) = some u) (by
      intro i hi
      obtain ⟨cs, hcs, htr⟩ := hf i (by omega)
      rw [show Try.prog.cellsOf 28 = 4 by kernel_rfl] at hcs
      have hg := fun (j : Nat) (f : Field) (hj : _) => field_at (j := j) (f := f) Try.underlying28 (by kernel_rfl) rfl hcs htr hj
      obtain ⟨v0, y0, _, c0, t0⟩ := hg 0 _ rfl
      obtain ⟨v1, y1, _, c1, t1⟩ := hg 1 _ rfl
      obtain ⟨v2, y2, _, c2, t2⟩ := hg 2 _ rfl
      obtain ⟨v3, y3, _, c3, t3⟩ := hg 3 _ rfl
      rw [add_add] at c0 c1 c2 c3
      obtain ⟨n0, e0, _, w0⟩ := DataW.trod_int Try.underlying3 t0
      obtain ⟨n1, e1, _, w1⟩ := DataW.trod_int Try.underlying26 t1
      obtain ⟨n2, e2, _, w2⟩ := DataW.trod_int Try.underlying26 t2
      obtain ⟨n3, e3, _, w3⟩ := DataW.trod_int Try.underlying3 t3
      injection e0 with e0; injection e1 with e1; injection e2 with e2; injection e3 with e3
      subst e0; subst e1; subst e2; subst e3
      have f1 := u64_of_wf w1
      have f2 := u64_of_wf w2
      refine ⟨⟨n0, n1, n2, n3⟩, ⟨f1.1, f1.2, f2.1, f2.2⟩, ?_⟩
      intro j u hu
      match j, hu with
      | 0, hu => cases hu; exact c0
      | 1, hu => cases hu; exact c1
      | 2, hu => cases hu; exact c2
      | 3, hu => cases hu; exact c3
      | j + 4, hu => simp [GCall.cells] at hu)
    refine ⟨some a, l, cap, by rw [hl]; exact hv, readAt_rows (f := GCall.cells) (c := 4) (fun x => rfl) (by decide) fun i x hx => (hp i x hx).2, ?_⟩
    intro it hit
    obtain ⟨i, hi⟩ := List.getElem?_of_mem hit
    exact (hp i it hi).1

set_option maxRecDepth 100000 in
/-- A scene that comes in. -/
theorem open_scene {r : Reach} {b0 : Nat} {v : Value} {d : DataW H} {p : List MemPlace} (hv : Value.okWide Try.prog w r b0 25 v) (h : DataW.Trod enc Try.prog w base spare held 25 v d p) :
    ∃ (x : Scene) (ia ca : Option Addr) (ic cc : Nat), SceneAt w v x ia ca ic cc ∧ x.fits := by
  obtain ⟨v0, v1, v2, y0, y1, y2, n, rfl, _, _, t0, t1, t2⟩ := open_agg3 Try.underlying25 (by kernel_rfl) (by kernel_rfl) hv h
  obtain ⟨f, e0, _, w0⟩ := DataW.trod_int Try.underlying5 t0
  obtain ⟨ia, items, ic, rfl, hI, hif⟩ := open_items t1
  obtain ⟨ca, calls, cc, rfl, hC, hcf⟩ := open_calls t2
  injection e0 with e0
  subst e0
  exact ⟨⟨f, items, calls⟩, ia, ca, ic, cc, ⟨rfl, hI, hC⟩, ⟨u8_of_wf w0, hif, hcf⟩⟩
end

end Go.Proofs.Ytccmjljlfgbicaa
