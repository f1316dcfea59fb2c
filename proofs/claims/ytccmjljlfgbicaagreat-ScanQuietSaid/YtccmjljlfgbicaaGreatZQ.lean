/- Three scans of a laid scene, one after the other: they begin, end, and tell what they are to. Plain. -/
import Derived.Test.YtccmjljlfgbicaaGreatSq
import Derived.Test.YtccmjljlfgbicaaGreatZL1
import Derived.Test.YtccmjljlfgbicaaGreatZLaidK
import Derived.Test.YtccmjljlfgbicaaGreatLook
import Derived.Test.YtccmjljlfgbicaaGreatZLkT
import Derived.Test.YtccmjljlfgbicaaGreatZStW
import Derived.Test.YtccmjljlfgbicaaGreatRegL
import Derived.Test.YtccmjljlfgbicaaGreatScene
import Derived.Test.YtccmjljlfgbicaaGreatRegQ
import Derived.Test.YtccmjljlfgbicaaGreatZA1
import Derived.Test.YtccmjljlfgbicaaGreatZO1
import Derived.Test.YtccmjljlfgbicaaGreatZLkA
import Derived.WalkKit
import Derived.ProofKit
import Derived.OpenShut
namespace Go.Proofs.YtccmjljlfgbicaaGreat
open Go.ChangeShapes Go.WideShapes Go.ChangeAt Go.RowKit

theorem tick_le (l : List Int) (p n : Int) (h : 0 ≤ n ∧ n ≤ 100000) : 0 ≤ tick l p n ∧ tick l p n ≤ n + 1 := by
  unfold tick
  split
  · have := wrap64_in (n := n + 1) (by omega) (by omega)
    omega
  · omega
theorem layItem_steps (p : St × Int × Int) (i : GItem) (h : 0 ≤ p.1.steps ∧ p.1.steps ≤ 1000) : 0 ≤ (layItem p i).1.steps ∧ (layItem p i).1.steps ≤ p.1.steps + 3 := by
  have h1 : ∀ (s : St) (op : Int), 0 ≤ s.steps ∧ s.steps ≤ 1000 → 0 ≤ (s.layOp op i).1.steps ∧ (s.layOp op i).1.steps ≤ s.steps + 1 := by
    intro s op hs
    unfold St.layOp
    split
    · exact ⟨hs.1, by show s.steps ≤ s.steps + 1; omega⟩
    · have hb := (begin_same s 0 ⟨1, i.key, i.val, 0⟩).2.2.2
      have := tick_le (s.begin 0 ⟨1, i.key, i.val, 0⟩).1.words ((s.begin 0 ⟨1, i.key, i.val, 0⟩).1.wordAt (s.begin 0 ⟨1, i.key, i.val, 0⟩).2.1) (s.begin 0 ⟨1, i.key, i.val, 0⟩).1.steps (by rw [hb]; omega)
      rw [hb] at this
      show 0 ≤ tick _ _ _ ∧ tick _ _ _ ≤ _
      rw [hb]; exact this
  have h2 : ∀ (s : St) (at_ op : Int), 0 ≤ s.steps ∧ s.steps ≤ 1001 → 0 ≤ (s.layNode at_ op i.mark).1.steps ∧ (s.layNode at_ op i.mark).1.steps ≤ s.steps + 2 := by
    intro s at_ op hs
    have hm := (make_same s 0 op).2.2.2
    have a := tick_le (s.make 0 op).1.words ((s.make 0 op).1.nextAt at_) (s.make 0 op).1.steps (by rw [hm]; omega)
    have b := fun l p => tick_le l p (tick (s.make 0 op).1.words ((s.make 0 op).1.nextAt at_) (s.make 0 op).1.steps) (by rw [hm] at a ⊢; omega)
    unfold St.layNode St.store
    dsimp only
    have b' := b (storeL (s.make 0 op).1.words ((s.make 0 op).1.nextAt at_) (refOf (s.make 0 op).2.1 ((s.make 0 op).1.peek at_ % 2 == 1))) (St.nextAt { (s.make 0 op).1 with words := storeL (s.make 0 op).1.words ((s.make 0 op).1.nextAt at_) (refOf (s.make 0 op).2.1 ((s.make 0 op).1.peek at_ % 2 == 1)), steps := tick (s.make 0 op).1.words ((s.make 0 op).1.nextAt at_) (s.make 0 op).1.steps } (s.make 0 op).2.1)
    have a' := a.2
    have b2 := b'.2
    refine ⟨b'.1, ?_⟩
    rw [hm] at a'
    exact Int.le_trans b2 (by omega)
  unfold layItem
  have a := h1 p.1 p.2.2 h
  have b := h2 (p.1.layOp p.2.2 i).1 p.2.1 (p.1.layOp p.2.2 i).2 (by omega)
  exact ⟨b.1, by
    have := b.2
    show ((p.1.layOp p.2.2 i).1.layNode p.2.1 (p.1.layOp p.2.2 i).2 i.mark).1.steps ≤ _
    omega⟩
theorem layItems_steps : ∀ (l : List GItem) (p : St × Int × Int), 0 ≤ p.1.steps → p.1.steps + 3 * l.length ≤ 1000 → 0 ≤ (l.foldl layItem p).1.steps ∧ (l.foldl layItem p).1.steps ≤ p.1.steps + 3 * l.length
  | [], p, h, _ => ⟨h, by simp⟩
  | i :: l, p, h, h2 => by
    simp only [List.length_cons] at h2
    have a := layItem_steps p i ⟨h, by omega⟩
    have b := layItems_steps l (layItem p i) a.1 (by omega)
    simp only [List.foldl_cons, List.length_cons]
    omega
theorem lay_steps {x : Scene} (hl : x.items.length ≤ 12) : 0 ≤ x.lay.steps ∧ x.lay.steps ≤ 36 := by
  have hc : ∀ (l : List GCall) (s : St), (s.layCalls l).steps = s.steps := by
    intro l
    induction l with
    | nil => intro s; rfl
    | cons c l ih => intro s; exact (ih (s.begin 2 c).1).trans (begin_same s 2 c).2.2.2
  have h0 : (St.new x.conf).steps = 0 := rfl
  have a := layItems_steps x.sorted (St.new x.conf, 1, 0) (Int.le_refl 0) (by show (0 : Int) + _ ≤ _; rw [sorted_len]; omega)
  rw [sorted_len] at a
  have e : x.lay.steps = (x.sorted.foldl layItem (St.new x.conf, 1, 0)).1.steps := hc x.calls _
  rw [e]
  have a2 : (x.sorted.foldl layItem (St.new x.conf, 1, 0)).1.steps ≤ 0 + 3 * x.items.length := a.2
  exact ⟨a.1, by omega⟩

structure Free1 (s : St) (a : Int) : Prop where
  calls : s.c.calls = 16
  thr : ∃ u : Thr, s.thr[1]? = some u ∧ u.calls = a
theorem begin_thr1 (s : St) (c : GCall) : (s.begin 2 c).1.thr[1]? = s.thr[1]? := by
  unfold St.begin
  split; · rfl
  split; · rfl
  split; · rfl
  split
  · exact List.getElem?_set_ne (by decide)
  · exact List.getElem?_set_ne (by decide)
theorem lay_free1 {x : Scene} (hx : x.fits) (hlen : x.items.length ≤ 12) : Free1 x.lay 0 := by
  obtain ⟨op, o, h, ho, hK⟩ := lay_K hx hlen
  have hc : ∀ (l : List GCall) (s : St), (s.layCalls l).thr[1]? = s.thr[1]? ∧ (s.layCalls l).c = s.c := by
    intro l
    induction l with
    | nil => intro s; exact ⟨rfl, rfl⟩
    | cons c l ih => intro s; exact ⟨(ih (s.begin 2 c).1).1.trans (begin_thr1 s c), (ih (s.begin 2 c).1).2.trans (begin_same s 2 c).1⟩
  obtain ⟨a, b⟩ := hc x.calls ((St.new x.conf).layItems x.sorted).1
  refine ⟨?_, ⟨⟨0, 0, 0⟩, ?_, rfl⟩⟩
  · show (St.layCalls _ _).c.calls = 16
    rw [b, h.c]
  · show (St.layCalls _ _).thr[1]? = _
    rw [a, h.thr]; rfl
theorem scan_begins {s : St} {a : Int} (h : Free1 s a) (ha : a < 16) (c : GCall) (hk : c.kind = 4) : (s.scnNew 1 c).2 = Scn.start c s.c.buckets ∧ Free1 (s.scnNew 1 c).1 (a + 1) ∧ (s.scnNew 1 c).1.steps = s.steps := by
  obtain ⟨hc, u, hu, rfl⟩ := h
  have ht : thrAt s.thr 1 = some u := by unfold thrAt; rw [if_pos (by decide)]; exact hu
  have hb : s.begin 1 c = ({ s with thr := s.thr.set 1 { u with calls := u.calls + 1, inserts := u.inserts }, ops := s.ops ++ [(1 * s.c.calls + u.calls, c)] }, 1 * s.c.calls + u.calls, 0) := by
    unfold St.begin
    rw [ht]
    simp only
    rw [if_neg (by omega), if_neg (by omega), if_neg (by omega), if_neg (by omega)]
    rfl
  unfold St.scnNew
  rw [if_pos hk, hb]
  rw [if_pos rfl]
  refine ⟨rfl, ⟨hc, ⟨{ u with calls := u.calls + 1, inserts := u.inserts }, ?_, rfl⟩⟩, rfl⟩
  show (s.thr.set 1 _)[1]? = _
  have hl : 1 < s.thr.length := (List.getElem?_eq_some_iff.1 hu).1
  rw [List.getElem?_set_self hl]

structure Calm (s0 : St) (j : Nat) (a : Int) (m : Int) (s : St) : Prop where
  alike : Alike s0 s
  laid : LaidV s.vw j
  free : Free1 s a
  steps : 0 ≤ s.steps ∧ s.steps ≤ m
theorem calm_scan {s0 s : St} {j : Nat} {a m : Int} (h0 : LaidV s0.vw j) (hj : j ≤ 12) (h : Calm s0 j a m s) (ha : a < 16) (hm : m ≤ 1000) {c : GCall} (hk : c.kind = 4) :
    Calm s0 j (a + 1) (m + (1 + 2 * j)) (scnIter 300 (s.scnNew 1 c)).1 ∧ Ended (scnIter 300 (s.scnNew 1 c)).2 ((s0.scnL c 0 j []).take c.limit.toNat) ∧ (scnIter 300 (s.scnNew 1 c)).1.steps ≤ s.steps + (1 + 2 * j) := by
  obtain ⟨e1, e2, e3⟩ := scan_begins h.free ha c hk
  have hl1 : LaidV (s.scnNew 1 c).1.vw j := laidV_scnNew h.laid 1 c
  have ha1 : Alike s0 (s.scnNew 1 c).1 := h.alike.trans (alike_new s 1 c)
  have hst := h.steps
  obtain ⟨k, n', y, k1, k2, k3, k4⟩ := scn_all (c := c) hl1 (by omega) (n := s.steps) (by omega)
  have hb1 : (s.scnNew 1 c).1.c.buckets = s.c.buckets := by rw [(alike_new s 1 c).c]
  have hp : s.scnNew 1 c = ((s.scnNew 1 c).1.at s.steps, Scn.start c (s.scnNew 1 c).1.c.buckets) := by
    refine Prod.ext ?_ (by rw [hb1]; exact e1)
    show (s.scnNew 1 c).1 = { (s.scnNew 1 c).1 with steps := s.steps }
    rw [← e3]
  have hfin : scnIter 300 (s.scnNew 1 c) = ((s.scnNew 1 c).1.at n', y) := by
    rw [hp, show 300 = k + (300 - k) by omega]
    exact scnIter_done k2 k4.done _
  rw [hfin]
  rw [scnL_alike ha1 h0 c j 0 [] (by omega)] at k4
  refine ⟨⟨⟨ha1.c, ha1.words, ha1.nodes, ha1.call⟩, hl1, ⟨e2.calls, e2.thr⟩, ?_⟩, k4, ?_⟩
  · show 0 ≤ n' ∧ n' ≤ _
    omega
  · show n' ≤ _
    omega
theorem parts_law {x : Scene} (hx : x.fits) (hl : x.items.length ≤ 12) {lo mid hi : Int} (h1 : lo ≤ mid) (h2 : mid ≤ hi) :
    let p1 := scnIter 300 (x.lay.scnNew 1 ⟨4, lo, mid, 99⟩)
    let p2 := scnIter 300 (p1.1.scnNew 1 ⟨4, mid + 1, hi, 99⟩)
    let p3 := scnIter 300 (p2.1.scnNew 1 ⟨4, lo, hi, 99⟩)
    p1.2.done = true ∧ p2.2.done = true ∧ p3.2.done = true ∧ p3.2.pairs = p1.2.pairs ++ p2.2.pairs ∧ p1.2.pairs.length ≤ 12 ∧ p2.2.pairs.length ≤ 12 := by
  have hL := (lay_laidV hx hl).1
  have c0 : Calm x.lay x.items.length 0 36 x.lay := ⟨Alike.refl _, hL, lay_free1 hx hl, lay_steps hl⟩
  obtain ⟨c1, d1, _⟩ := calm_scan hL hl c0 (by decide) (by decide) (c := ⟨4, lo, mid, 99⟩) rfl
  obtain ⟨c2, d2, _⟩ := calm_scan hL hl c1 (by decide) (by omega) (c := ⟨4, mid + 1, hi, 99⟩) rfl
  obtain ⟨c3, d3, _⟩ := calm_scan hL hl c2 (by decide) (by omega) (c := ⟨4, lo, hi, 99⟩) rfl
  have tk : ∀ c : GCall, c.limit = 99 → (x.lay.scnL c 0 x.items.length []).take c.limit.toNat = x.lay.scnL c 0 x.items.length [] := by
    intro c hc
    refine List.take_of_length_le ?_
    have := scnL_len x.lay c x.items.length 0 []
    rw [hc]
    simp at this
    have : (99 : Int).toNat = 99 := rfl
    omega
  have ln : ∀ c : GCall, (x.lay.scnL c 0 x.items.length []).length ≤ 12 := by
    intro c
    have := scnL_len x.lay c x.items.length 0 []
    simp at this
    omega
  rw [tk _ rfl] at d1 d2 d3
  refine ⟨d1.done, d2.done, d3.done, ?_, by rw [d1.pairs]; exact ln _, by rw [d2.pairs]; exact ln _⟩
  rw [d1.pairs, d2.pairs, d3.pairs]
  exact parts_all hL h1 h2 x.items.length 0 [] (by omega) (fun q hq => by cases hq)
end Go.Proofs.YtccmjljlfgbicaaGreat

/- The chain of a laid scene. Plain. -/
namespace Go.Proofs.YtccmjljlfgbicaaGreat
open Go.ChangeShapes Go.WideShapes Go.ChangeAt Go.RowKit

theorem path_uniq {s : St} : ∀ {l r : List Int} {n : Int}, Path s n l → Path s n r → l = r
  | [], [], _, _, _ => rfl
  | [], b :: r, n, h, k => by
    have h' : s.peek n / 2 = 0 := h
    exact (k.2.1 (by rw [← k.1, h'])).elim
  | a :: l, [], n, h, k => by
    have k' : s.peek n / 2 = 0 := k
    exact (h.2.1 (by rw [← h.1, k'])).elim
  | a :: l, b :: r, n, h, k => by
    have e : a = b := h.1.symm.trans k.1
    subst e
    rw [path_uniq h.2.2 k.2.2]
theorem behind_path {s : St} : ∀ {l : List Int} {n : Int} (m : Nat), Path s n l → (∀ a ∈ n :: l, s.nextAt a = a) → l.length ≤ m → s.behind m n = l
  | [], n, 0, _, _, _ => rfl
  | [], n, m + 1, h, ha, _ => by
    have e : s.follow n = 0 := by unfold St.follow; rw [ha n (.head _)]; exact h
    unfold St.behind
    rw [if_pos e]
  | a :: l, n, 0, _, _, hl => by simp at hl
  | a :: l, n, m + 1, h, ha, hl => by
    have e : s.follow n = a := by unfold St.follow; rw [ha n (.head _)]; exact h.1
    unfold St.behind
    rw [e, if_neg h.2.1, behind_path m h.2.2 (fun b hb => ha b (.tail _ hb)) (by simp only [List.length_cons] at hl; omega)]
theorem chain_path {s : St} (hb : s.c.buckets = 1) {l : List Int} (h : Path s 1 l) (hg : ∀ a ∈ l, Good s a) (hl : (l.length : Int) ≤ s.c.nodes) (h1 : 1 < s.c.nodes) : s.chain 0 = l := by
  have hh : s.headAt 0 = 1 := by unfold St.headAt; rw [hb]; rfl
  unfold St.chain
  rw [hh, if_neg (by decide)]
  refine behind_path _ h (fun a ha => ?_) (by omega)
  rcases List.mem_cons.1 ha with rfl | ha
  · exact nextAt_in (by decide) h1
  · have := hg a ha
    exact nextAt_in (by have := this.1; omega) this.2.1
theorem nodesFrom_eq : ∀ (j k : Nat), nodesFrom k j = laidL k j
  | 0, _ => rfl
  | j + 1, k => by
    rw [nodesFrom_succ, laidL, nodesFrom_eq j (k + 1)]

def Scene.sound (x : Scene) : Prop := x.lay.vw.sndRun 0 ⟨[], [], [], 0⟩ (x.lay.chain 0) = true
theorem lay_chain {x : Scene} (hx : x.fits) (hlen : x.items.length ≤ 12) : x.lay.chain 0 = laidL 0 x.items.length := by
  obtain ⟨h1, h2, h3, h4, h5, h6⟩ := lay_path hx hlen
  have hnn : x.lay.c.nodes = 98 := by rw [h2]; exact conf_nodes hx.fuel
  rw [← nodesFrom_eq]
  exact chain_path (by rw [h2]; rfl) h3 h6 (by rw [nodesFrom_len, hnn]; omega) (by rw [hnn]; decide)
theorem lay_inv {x : Scene} (hx : x.fits) (hlen : x.items.length ≤ 12) (hs : x.sound) : Inv x.lay.vw (laidG x.items.length true) :=
  inv_of_laid (lay_laidV hx hlen).1 true fun _ => by rw [← lay_chain hx hlen]; exact hs
end Go.Proofs.YtccmjljlfgbicaaGreat

/- A world where all is as it may be: its chain, that it is sound, its pairs. Plain. -/
namespace Go.Proofs.YtccmjljlfgbicaaGreat
open Go.ChangeShapes Go.WideShapes Go.ChangeAt Go.RowKit

theorem pigeon : ∀ (n : Nat) (L : List Int), L.Nodup → (∀ a ∈ L, 0 ≤ a ∧ a < (n : Int)) → L.length ≤ n
  | 0, L, _, h => by
    cases L with
    | nil => exact Nat.le_refl _
    | cons a l => have := h a (.head _); omega
  | n + 1, L, hn, h => by
    by_cases hm : (n : Int) ∈ L
    · have h1 := pigeon n (L.erase (n : Int)) (hn.erase _) fun a ha => by
        have h2 := h a (List.mem_of_mem_erase ha)
        have h3 : a ≠ (n : Int) := fun e => by
          rw [e] at ha
          exact (hn.not_mem_erase) ha
        omega
      rw [List.length_erase_of_mem hm] at h1
      omega
    · have h1 := pigeon n L hn fun a ha => by
        have h2 := h a ha
        have h3 : a ≠ (n : Int) := fun e => hm (e ▸ ha)
        omega
      omega
theorem behind_vpath {s : St} : ∀ {L : List Int} {n : Int} (m : Nat), VPath s.vw n L → L.length ≤ m → s.behind m n = L
  | [], n, 0, _, _ => rfl
  | [], n, m + 1, h, _ => by
    have e : s.follow n = 0 := h
    unfold St.behind
    rw [if_pos e]
  | a :: L, n, 0, _, hl => by simp at hl
  | a :: L, n, m + 1, h, hl => by
    have e : s.follow n = a := h.1
    unfold St.behind
    rw [e, if_neg h.2.1, behind_vpath m h.2.2 (by simp only [List.length_cons] at hl; omega)]
theorem call_fits {s : St} (hok : s.ok) (o : Int) : (s.call o).fits := by
  unfold St.call St.callOf
  cases h : look1 s.ops o with
  | none => exact ⟨by decide, by decide, by decide, by decide⟩
  | some c => exact (hok.ops _ (look1_mem h)).1
theorem key_range {s : St} (hok : s.ok) (n : Int) : 0 ≤ s.key n ∧ s.key n ≤ 18446744073709551615 := by
  have h := call_fits hok (s.carried n)
  exact ⟨h.1, h.2.1⟩

structure Sees (s : St) (g : Gh) (L : List Int) : Prop where
  chain : s.chain 0 = L
  path : VPath s.vw 1 L
  nd : ∀ m ∈ L, Nd s.vw g 0 m
  srt : L.Pairwise (Lt s.vw g)
  un : ∀ m, Nd s.vw g 0 m → ¬ s.vw.mkd m → m ∈ L
section
variable {s : St} {g : Gh}
theorem inv_sees (hok : s.ok) (hb : s.c.buckets = 1) (I : Inv s.vw g) : ∃ L, Sees s g L := by
  have hb' : s.vw.nb = 1 := hb
  obtain ⟨L, h1, h2⟩ := I.chain 0 (Int.le_refl 0) (by rw [hb']; decide)
  obtain ⟨h3, h4⟩ := path_facts I (b := 0) (.inl ⟨rfl, Int.le_refl 0, by rw [hb']; decide⟩) h1
  have hnd : L.Nodup := h4.imp fun {a b} h e => by rw [e] at h; exact h.irrefl
  have hln : L.length ≤ s.c.nodes.toNat := pigeon _ _ hnd fun a ha => by
    have := lk_range hok I (h3 a ha).1.1
    omega
  have hh : s.headAt 0 = 1 := by unfold St.headAt; rw [hb]; rfl
  refine ⟨L, ?_, h1, fun m hm => (h3 m hm).1, h4, h2⟩
  unfold St.chain
  rw [hh, if_neg (by decide)]
  exact behind_vpath _ h1 hln
theorem inv_sound (hok : s.ok) (hb : s.c.buckets = 1) (I : Inv s.vw g) (hd : g.sd = true) : s.sound = true := by
  obtain ⟨L, h⟩ := inv_sees hok hb I
  rw [St.sound_one hb]
  unfold St.sound1
  rw [h.chain]
  exact sndRun_of_inv I hd (fun n _ => (key_range hok n).1) h.nd h.srt h.un L [] _ rfl (sndAt_nil _)
theorem inv_prs (hok : s.ok) (hb : s.c.buckets = 1) (I : Inv s.vw g) (hd : g.sd = true) : Rising s.prs ∧ ∀ p, p ∈ s.prs ↔ ∃ o, s.vw.inn o ∧ p = (s.vw.ky o, s.vl o) := by
  obtain ⟨L, h⟩ := inv_sees hok hb I
  have hr := prs_rising (vl := s.vl) I hd (B := L) (once := []) (fun m hm => (h.nd m hm).1) h.srt
  have e : s.prs = s.vw.prsRun s.vl [] L := by
    unfold St.prs
    rw [h.chain, isort_rising hr]
  rw [e]
  refine ⟨hr, fun p => ?_⟩
  rw [prs_iff I hd h.nd h.un]
  have hk : ∀ k, s.vw.bk k = 0 := fun k => by
    show bucketOf k s.c.buckets = 0
    rw [hb]; exact bucket_one k
  constructor
  · rintro ⟨o, a, _, b⟩; exact ⟨o, a, b⟩
  · rintro ⟨o, a, b⟩; exact ⟨o, a, hk _, b⟩
end
end Go.Proofs.YtccmjljlfgbicaaGreat

/- ScanQuiet, the plain law: in a sound world that nobody disturbs a scan tells the pairs of its range. Plain. -/
namespace Go.Proofs.YtccmjljlfgbicaaGreat
open Go.ChangeShapes Go.WideShapes Go.ChangeAt Go.RowKit

section
variable {s : St} {j : Nat} {c : GCall}
def Brings (s : St) (c : GCall) (u : Nat) (p : Int × Int) : Prop := s.peek (s.wordAt (s.carried (2 + (u : Int)))) = 1 ∧ c.key ≤ s.key (2 + (u : Int)) ∧ s.key (2 + (u : Int)) ≤ c.val ∧ p = (s.key (2 + (u : Int)), (s.call (s.carried (2 + (u : Int)))).val)
theorem scnL_mem (h : LaidV s.vw j) {g : Gh} (I : Inv s.vw g) (hd : g.sd = true) : ∀ (k t : Nat) (l : List (Int × Int)), t + k = j → (∀ p, p ∈ l ↔ ∃ u, u < t ∧ Brings s c u p) → ∀ p, p ∈ s.scnL c t k l ↔ ∃ u, u < t + k ∧ Brings s c u p
  | 0, t, l, _, hl, p => hl p
  | k + 1, t, l, hj, hl, p => by
    have hins : ∀ u : Nat, u < j → (s.call (s.carried (2 + (u : Int)))).kind = 1 := h.ins
    unfold St.scnL
    by_cases hk : s.key (2 + (t : Int)) ≤ c.val
    · rw [if_pos hk]
      have hj' : ∀ p, p ∈ s.judgeL c (2 + (t : Int)) (s.peek (s.wordAt (s.carried (2 + (t : Int))))) l ↔ ∃ u, u < t + 1 ∧ Brings s c u p := by
        intro p
        have split : (∃ u, u < t + 1 ∧ Brings s c u p) ↔ (∃ u, u < t ∧ Brings s c u p) ∨ Brings s c t p := by
          constructor
          · rintro ⟨u, h1, h2⟩
            by_cases e : u = t
            · subst e; exact .inr h2
            · exact .inl ⟨u, by omega, h2⟩
          · rintro (⟨u, h1, h2⟩ | h2)
            · exact ⟨u, by omega, h2⟩
            · exact ⟨t, by omega, h2⟩
        rw [split, ← hl]
        unfold St.judgeL
        by_cases hq : s.peek (s.wordAt (s.carried (2 + (t : Int)))) = 1 ∧ c.key ≤ s.key (2 + (t : Int))
        · by_cases hf : freshP l (s.key (2 + (t : Int))) = true
          · rw [if_pos ⟨hq.1, hq.2, hk, hf⟩, List.mem_append, List.mem_singleton]
            constructor
            · rintro (q | q)
              · exact .inl q
              · exact .inr ⟨hq.1, hq.2, hk, q⟩
            · rintro (q | ⟨_, _, _, q⟩)
              · exact .inl q
              · exact .inr q
          · rw [if_neg fun q => hf q.2.2.2]
            constructor
            · exact .inl
            · rintro (q | ⟨_, _, _, q⟩)
              · exact q
              · -- its key's pair is there
                have hlast : ∃ r, r ∈ l ∧ r.1 = s.key (2 + (t : Int)) := by
                  unfold freshP at hf
                  cases hg : l.getLast? with
                  | none => rw [hg] at hf; exact (hf rfl).elim
                  | some r =>
                    rw [hg] at hf
                    refine ⟨r, List.mem_of_getLast? hg, ?_⟩
                    have : ¬ (r.1 != s.key (2 + (t : Int))) = true := hf
                    simpa using this
                obtain ⟨r, hr, hrk⟩ := hlast
                obtain ⟨u, hu, b1, b2, b3, b4⟩ := (hl r).1 hr
                have hkk : s.key (2 + (u : Int)) = s.key (2 + (t : Int)) := by rw [← hrk, b4]
                have hone := I.one_in hd (o := s.carried (2 + (u : Int))) (o' := s.carried (2 + (t : Int))) ⟨hins u (by omega), b1⟩ ⟨hins t (by omega), hq.1⟩ hkk
                rw [q, ← hkk, ← hone, ← b4]
                exact hr
        · rw [if_neg fun q => hq ⟨q.1, q.2.1⟩]
          constructor
          · exact .inl
          · rintro (q | ⟨q1, q2, _⟩)
            · exact q
            · exact (hq ⟨q1, q2⟩).elim
      rw [scnL_mem h I hd k (t + 1) _ (by omega) hj' p, show t + 1 + k = t + (k + 1) by omega]
    · rw [if_neg hk, hl]
      constructor
      · rintro ⟨u, h1, h2⟩; exact ⟨u, by omega, h2⟩
      · rintro ⟨u, h1, h2⟩
        by_cases e : u < t
        · exact ⟨u, e, h2⟩
        · have h3 : s.key (2 + (t : Int)) ≤ s.key (2 + (u : Int)) := h.rise' (a := t) (b := u) (by omega) (by omega)
          have h4 := h2.2.2.1
          omega
theorem scnL_rise (h : LaidV s.vw j) : ∀ (k t : Nat) (l : List (Int × Int)), t + k = j → Rising l → (∀ q ∈ l, 0 < k → q.1 ≤ s.key (2 + (t : Int))) → Rising (s.scnL c t k l)
  | 0, t, l, _, hr, _ => hr
  | k + 1, t, l, hj, hr, hle => by
    unfold St.scnL
    split
    · have hn : 0 < k → s.key (2 + (t : Int)) ≤ s.key (2 + ((t + 1 : Nat) : Int)) := fun hk => h.rise' (a := t) (b := t + 1) (by omega) (by omega)
      have hle' := fun q hq => hle q hq (by omega)
      refine scnL_rise h k (t + 1) _ (by omega) ?_ ?_
      · unfold St.judgeL
        split
        · rename_i hq
          exact rising_snoc hr hle' hq.2.2.2
        · exact hr
      · intro q hq hk
        have := hn hk
        unfold St.judgeL at hq
        split at hq
        · rcases List.mem_append.1 hq with hq | hq
          · have := hle' q hq; omega
          · rw [List.mem_singleton.1 hq]; exact this
        · have := hle' q hq; omega
    · exact hr
def rangeL (c : GCall) (l : List (Int × Int)) : List (Int × Int) := l.filter fun p => decide (c.key ≤ p.1 ∧ p.1 ≤ c.val)
theorem scnL_prs (hok : s.ok) (h : LaidV s.vw j) {g : Gh} (I : Inv s.vw g) (hd : g.sd = true) : s.scnL c 0 j [] = rangeL c s.prs := by
  obtain ⟨r1, m1⟩ := inv_prs hok h.nb I hd
  refine rising_ext (scnL_rise h j 0 [] (by omega) List.Pairwise.nil (fun q hq => by cases hq)) (r1.sublist List.filter_sublist) fun p => ?_
  rw [scnL_mem h I hd j 0 [] (by omega) (fun p => ⟨fun e => (by cases e), fun ⟨u, hu, _⟩ => (by omega)⟩) p]
  unfold rangeL
  rw [List.mem_filter, m1]
  constructor
  · rintro ⟨u, hu, b1, b2, b3, rfl⟩
    exact ⟨⟨s.carried (2 + (u : Int)), ⟨h.ins u (by omega), b1⟩, rfl⟩, by simpa using ⟨b2, b3⟩⟩
  · rintro ⟨⟨o, ⟨h1, h2⟩, rfl⟩, hr⟩
    obtain ⟨t, ht, rfl⟩ := h.held o h1 h2
    have hr' : c.key ≤ s.vw.ky (s.vw.op (2 + (t : Int))) ∧ s.vw.ky (s.vw.op (2 + (t : Int))) ≤ c.val := by simpa using hr
    exact ⟨t, by omega, h2, hr'.1, hr'.2, rfl⟩
end

/-! ### A world that is like another one -/
theorem behind_alike {s s' : St} (h : Alike s s') : ∀ m n, s'.behind m n = s.behind m n
  | 0, _ => rfl
  | m + 1, n => by
    have e : s'.follow n = s.follow n := by unfold St.follow; rw [h.nx]
    unfold St.behind
    rw [e, behind_alike h m]
theorem chain_alike {s s' : St} (h : Alike s s') (b : Int) : s'.chain b = s.chain b := by
  have e : s'.headAt b = s.headAt b := by unfold St.headAt; rw [h.c]
  unfold St.chain
  rw [e, behind_alike h, h.c]
theorem prsRun_alike {s s' : St} (h : Alike s s') : ∀ (l once : List Int), (∀ n ∈ l, (s.call (s.carried n)).kind = 1) → s'.vw.prsRun s'.vl once l = s.vw.prsRun s.vl once l
  | [], _, _ => rfl
  | n :: l, once, hk => by
    have h1 := hk n (.head _)
    have e1 : s'.vw.op n = s.vw.op n := h.car n
    have e2 : s'.call (s'.carried n) = s.call (s.carried n) := h.at_ h1
    have e3 : s'.vw.key n = s.vw.key n := h.key h1
    have e4 : s'.vl (s'.vw.op n) = s.vl (s.vw.op n) := by unfold St.vl; show (s'.call (s'.carried n)).val = _; rw [e2]; rfl
    have e5 : s'.vw.inn (s'.vw.op n) ↔ s.vw.inn (s.vw.op n) := by
      show ((s'.call (s'.carried n)).kind = 1 ∧ s'.peek (s'.wordAt (s'.carried n)) = 1) ↔ ((s.call (s.carried n)).kind = 1 ∧ s.peek (s.wordAt (s.carried n)) = 1)
      rw [e2, h.wd, h.car]
    have ih := fun o => prsRun_alike h l o fun m hm => hk m (.tail _ hm)
    unfold Vw.prsRun
    rw [e4, e3, e1] 
    rw [e1] at e5
    by_cases q : s.vw.inn (s.vw.op n) ∧ s.vw.op n ∉ once
    · rw [if_pos ⟨e5.2 q.1, q.2⟩, if_pos q, ih]
    · rw [if_neg fun r => q ⟨e5.1 r.1, r.2⟩, if_neg q, ih]
theorem prs_alike {s s' : St} {j : Nat} (h : Alike s s') (hL : LaidV s.vw j) (hc : s.chain 0 = laidL 0 j) : s'.prs = s.prs := by
  unfold St.prs
  rw [chain_alike h, hc, prsRun_alike h (laidL 0 j) [] fun n hn => ?_]
  rw [laidL_mem] at hn
  have := hL.ins (n - 2).toNat (by omega)
  rw [show (2 + ((n - 2).toNat : Int)) = n by omega] at this
  exact this
theorem quiet_law {x : Scene} (hx : x.fits) (hl : x.items.length ≤ 12) (hs : x.sound) {c : GCall} (hk : c.kind = 4) :
    let p := scnIter 300 (x.lay.scnNew 1 c)
    p.2.done = true ∧ p.2.rdone = true ∧ p.2.pairs = (rangeL c x.lay.prs).take c.limit.toNat ∧ p.1.prs = x.lay.prs ∧ p.1.c = x.lay.c ∧ (p.1.chain 0).length ≤ 12 ∧ (0 ≤ x.lay.steps ∧ x.lay.steps ≤ 36) ∧ 0 ≤ p.1.steps ∧ p.1.steps ≤ x.lay.steps + (1 + 2 * x.items.length) := by
  have hL := (lay_laidV hx hl).1
  have c0 : Calm x.lay x.items.length 0 36 x.lay := ⟨Alike.refl _, hL, lay_free1 hx hl, lay_steps hl⟩
  obtain ⟨c1, d1, e1⟩ := calm_scan hL hl c0 (by decide) (by decide) hk
  rw [scnL_prs (lay_path hx hl).1 hL (lay_inv hx hl hs) rfl] at d1
  have hc := lay_chain hx hl
  refine ⟨d1.done, d1.rdone, d1.pairs, prs_alike c1.alike hL hc, c1.alike.c, ?_, lay_steps hl, c1.steps.1, e1⟩
  rw [chain_alike c1.alike, hc, laidL_len]; exact hl
end Go.Proofs.YtccmjljlfgbicaaGreat

/- A list of pairs put behind one's own row; a region of two such. -/
namespace Go.Proofs.YtccmjljlfgbicaaGreat
open Go.ChangeShapes Go.WideShapes Go.ChangeAt Go.RowKit

theorem pairinfoA : (Tryz.prog.info? 103).map (fun i => (i.zero, i.size, i.bytes)) = some (some (.agg #[.int .u64 0, .int .u64 0]), 2, 16) := by kernel_rfl
theorem grownRow {w w0 w1 w2 : World} {e : TypeId} {size n : Nat} {v : Value} {xs : List Value} (h : Below w.heap.size w w1) (R : w0.ownsRow w.heap.size e size v n xs) (hg : w1.grownBy w2 v.ownBlock) : Below w.heap.size w w2 := by
  rcases R.2 with ⟨rfl, _⟩ | ⟨g, cap, cur, rfl, h2, _⟩
  · exact ⟨hg.os.trans h.os, hg.tape.trans h.tape, hg.output.trans h.output, Nat.le_trans h.size hg.size, fun i hi => (hg.block i (by have := h.size; omega) (by intro e; cases e)).trans (h.block i hi)⟩
  · exact grown_below h hg h2 h.size
theorem append_none {P : Program} (w : World) (base : Nat) (t ty e : TypeId) (i : TypeInfo) (size : Nat) (ht : P.underlying t = some (.slice e)) (hi : P.info? e = some i) (v : Value) (n : Nat) (xs : List Value) (hown : w.ownsRow base e size v n xs) (cap : Nat) :
    (Builtin.append_ #[t, t] ty #[v, .slice none 0 cap]).run P w = .ok v w := by
  rcases hown.2 with ⟨rfl, rfl⟩ | ⟨g, cp, cur, rfl, _, _, hnc, _⟩
  · simp [Builtin.append_, run_underlying ht, sizeOf, typeInfo, hi, Builtin.lenOf, Builtin.firstCells]
  · simp [Builtin.append_, run_underlying ht, sizeOf, typeInfo, hi, Builtin.lenOf, Builtin.firstCells, hnc, storeCells]
theorem wp_append_pairs {o : Oper} {a : Act} {w : World} {K : Act → World → Prop} {Q : Exit → Act → World → Prop} (s x : Operand) (ho : o.op = .call { callee := .builtin .append, args := #[s, x], argTypes := #[49, 49] })
    (base : Nat) (v : Value) (n : Nat) (xs : List Value) (hs : a.eval s = v) (hown : w.ownsRow base 103 2 v n xs) {N : Nat → Prop} {ao : Option Addr} {m cap : Nat} {l : List (Int × Int)} (hx : a.eval x = .slice ao m cap) (hp : PairsIn w N (.slice ao m cap) l) (h63 : n + m ≤ 1000) (hbase : base ≤ w.heap.size)
    (h : ∀ v' w', w'.ownsRow base 103 2 v' (n + m) (xs ++ pairsV l) → w.grownBy w' v.ownBlock → K (a.put o.dst v') w') : o.wp Tryz.prog a w K Q := by
  obtain ⟨i0, hi, hz0, hz1, hz2⟩ := info_parts pairinfoA
  rcases hp with ⟨rfl, ao', cap', e⟩ | ⟨b, off, c, e, h2, h3, h4, h5⟩
  · injection e with e1 e2 e3
    subst e1; subst e2; subst e3
    cases ao with
    | none =>
      have hr := append_none (P := Tryz.prog) w base 49 o.type 103 i0 2 Tryz.underlying49 hi v n xs hown cap
      unfold Oper.wp execOp
      simp only [ho, resolve, invoke, builtin, Sem.run_bind, Sem.run_pure, Result.andThen_ok, List.map_toArray, List.map_cons, List.map_nil, hs, hx, hr]
      exact h v w (by rw [show pairsV [] = [] from rfl, List.append_nil, Nat.add_zero]; exact hown) ⟨rfl, rfl, rfl, Nat.le_refl _, fun _ _ _ => rfl⟩
    | some ad =>
      refine wp_append_own (P := Tryz.prog) w s x 49 ho base 103 i0 (.agg #[.int .u64 0, .int .u64 0]) 2 16 Tryz.underlying49 hi hz0 hz1 hz2 rfl (by decide) v n xs hs hown ad 0 cap [] hx rfl (fun j u hu => by simp at hu) (fun u hu => by cases hu) (by unfold maxLen; omega) (by omega) hbase fun v' w' r1 r2 _ => ?_
      exact h v' w' r1 r2
  · injection e with e1 e2 e3
    subst e1; subst e2; subst e3
    refine wp_append_own (P := Tryz.prog) w s x 49 ho base 103 i0 (.agg #[.int .u64 0, .int .u64 0]) 2 16 Tryz.underlying49 hi hz0 hz1 hz2 rfl (by decide) v n xs hs hown ⟨b, off, none⟩ l.length cap (pairsV l) hx (pairsV_len l) (fun j u hu => by have := h5 j u hu; cases j <;> simpa [Addr.add] using this) (pairsV_one l) (by unfold maxLen; omega) (by omega) hbase fun v' w' r1 r2 _ => ?_
    exact h v' w' r1 r2

structure AppG (l m : List (Int × Int)) (F : Nat → Value → Prop) (W : World) (dn : Nat → Bool) (us : Nat → Value) (w : World) : Prop where
  below : Below W.heap.size W w
  pre : ∀ j, dn j = true → F j (us j)
  r0 : dn 0 = true → dn 4 = false → w.ownsRow W.heap.size 103 2 (us 0) 0 []
  r4 : dn 4 = true → dn 8 = false → w.ownsRow W.heap.size 103 2 (us 4) l.length (pairsV l)
  r8 : dn 8 = true → w.ownsRow W.heap.size 103 2 (us 8) (l.length + m.length) (pairsV l ++ pairsV m)
  r9 : dn 9 = true → us 9 = us 8
  o4 : dn 4 = true → dn 0 = true
  o8 : dn 8 = true → dn 4 = true
  o9 : dn 9 = true → dn 8 = true
section
variable {l m : List (Int × Int)} {F : Nat → Value → Prop} {W w w' : World} {dn : Nat → Bool} {us : Nat → Value}
theorem AppG.start (us : Nat → Value) : AppG l m F W (fun _ => false) us W.drew :=
  ⟨(Below.refl _ W).drew, fun _ e => (by cases e), fun e => (by cases e), fun e => (by cases e), fun e => (by cases e), fun e => (by cases e), fun e => (by cases e), fun e => (by cases e), fun e => (by cases e)⟩
theorem AppG.preU (h : AppG l m F W dn us w) {i : Nat} {v : Value} (hv : F i v) : ∀ j, updB dn i j = true → F j (updN us i v j) := fun j e => by
  by_cases q : j = i
  · subst q; rw [updN_eq]; exact hv
  · rw [updB_ne q] at e; rw [updN_ne q]; exact h.pre j e
theorem AppG.first (h : AppG l m F W dn us w) {i : Nat} (hi : i ≠ 0 ∧ i ≠ 4 ∧ i ≠ 8 ∧ i ≠ 9) {v : Value} (hv : F i v) : AppG l m F W (updB dn i) (updN us i v) w := by
  obtain ⟨h0, h4, h8, h9⟩ := hi
  refine ⟨h.below, h.preU hv, ?_, ?_, ?_, ?_, ?_, ?_, ?_⟩
  · rw [updB_ne h0.symm, updB_ne h4.symm, updN_ne h0.symm]; exact h.r0
  · rw [updB_ne h4.symm, updB_ne h8.symm, updN_ne h4.symm]; exact h.r4
  · rw [updB_ne h8.symm, updN_ne h8.symm]; exact h.r8
  · rw [updB_ne h9.symm, updN_ne h9.symm, updN_ne h8.symm]; exact h.r9
  · rw [updB_ne h4.symm, updB_ne h0.symm]; exact h.o4
  · rw [updB_ne h8.symm, updB_ne h4.symm]; exact h.o8
  · rw [updB_ne h9.symm, updB_ne h8.symm]; exact h.o9
theorem AppG.no (h : AppG l m F W dn us w) : (dn 0 = false → dn 4 = false) ∧ (dn 4 = false → dn 8 = false) ∧ (dn 8 = false → dn 9 = false) := by
  refine ⟨fun e => ?_, fun e => ?_, fun e => ?_⟩
  · cases q : dn 4 with
    | false => rfl
    | true => rw [h.o4 q] at e; cases e
  · cases q : dn 8 with
    | false => rfl
    | true => rw [h.o8 q] at e; cases e
  · cases q : dn 9 with
    | false => rfl
    | true => rw [h.o9 q] at e; cases e
theorem AppG.made (h : AppG l m F W dn us w) (hd : dn 0 = false) (hF : ∀ v, F 0 v) : AppG l m F W (updB dn 0) (updN us 0 (.slice (some ⟨w.heap.size, 0, none⟩) 0 0)) (w.alloc (.cells #[] 103)) := by
  obtain ⟨n4, n8, n9⟩ := h.no
  have h4 := n4 hd
  have h8 := n8 h4
  have h9 := n9 h8
  refine ⟨h.below.alloc h.below.size _, h.preU (hF _), ?_, ?_, ?_, ?_, ?_, ?_, ?_⟩
  · intro _ _
    rw [updN_eq]
    exact World.ownsRow_lit w #[] 0 h.below.size (by unfold maxLen; omega) rfl
  · intro e; rw [updB_ne (by decide), h4] at e; cases e
  · intro e; rw [updB_ne (by decide), h8] at e; cases e
  · intro e; rw [updB_ne (by decide), h9] at e; cases e
  · intro _; exact updB_eq
  · intro e; rw [updB_ne (by decide), h8] at e; cases e
  · intro e; rw [updB_ne (by decide), h9] at e; cases e
theorem AppG.app1 (h : AppG l m F W dn us w) (hd : dn 4 = false) (hF : ∀ v, F 4 v) {v : Value} (hr : w'.ownsRow W.heap.size 103 2 v l.length (pairsV l)) (hg : w.grownBy w' (us 0).ownBlock) (d0 : dn 0 = true) : AppG l m F W (updB dn 4) (updN us 4 v) w' := by
  obtain ⟨n4, n8, n9⟩ := h.no
  have h8 := n8 hd
  have h9 := n9 h8
  refine ⟨grownRow h.below (h.r0 d0 hd) hg, h.preU (hF _), ?_, ?_, ?_, ?_, ?_, ?_, ?_⟩
  · intro _ e; rw [updB_eq] at e; cases e
  · intro _ _; rw [updN_eq]; exact hr
  · intro e; rw [updB_ne (by decide), h8] at e; cases e
  · intro e; rw [updB_ne (by decide), h9] at e; cases e
  · intro _; rw [updB_ne (by decide)]; exact d0
  · intro e; rw [updB_ne (by decide), h8] at e; cases e
  · intro e; rw [updB_ne (by decide), h9] at e; cases e
theorem AppG.app2 (h : AppG l m F W dn us w) (hd : dn 8 = false) (hF : ∀ v, F 8 v) {v : Value} (hr : w'.ownsRow W.heap.size 103 2 v (l.length + m.length) (pairsV l ++ pairsV m)) (hg : w.grownBy w' (us 4).ownBlock) (d4 : dn 4 = true) : AppG l m F W (updB dn 8) (updN us 8 v) w' := by
  obtain ⟨n4, n8, n9⟩ := h.no
  have h9 := n9 hd
  refine ⟨grownRow h.below (h.r4 d4 hd) hg, h.preU (hF _), ?_, ?_, ?_, ?_, ?_, ?_, ?_⟩
  · intro _ e; rw [updB_ne (by decide), d4] at e; cases e
  · intro _ e; rw [updB_eq] at e; cases e
  · intro _; rw [updN_eq]; exact hr
  · intro e; rw [updB_ne (by decide), h9] at e; cases e
  · intro _; rw [updB_ne (by decide)]; exact h.o4 d4
  · intro _; rw [updB_ne (by decide)]; exact d4
  · intro e; rw [updB_ne (by decide), h9] at e; cases e
theorem AppG.last (h : AppG l m F W dn us w) (hF : ∀ v, F 9 v) (d8 : dn 8 = true) : AppG l m F W (updB dn 9) (updN us 9 (us 8)) w := by
  refine ⟨h.below, h.preU (hF _), ?_, ?_, ?_, ?_, ?_, ?_, ?_⟩
  · rw [updB_ne (by decide), updB_ne (by decide), updN_ne (by decide)]; exact h.r0
  · rw [updB_ne (by decide), updB_ne (by decide), updN_ne (by decide)]; exact h.r4
  · rw [updB_ne (by decide), updN_ne (by decide)]; exact h.r8
  · intro _; rw [updN_eq, updN_ne (by decide)]
  · rw [updB_ne (by decide), updB_ne (by decide)]; exact h.o4
  · rw [updB_ne (by decide), updB_ne (by decide)]; exact h.o8
  · intro _; rw [updB_ne (by decide)]; exact d8
end
end Go.Proofs.YtccmjljlfgbicaaGreat

/- Contract of corrieref09.Same. Printed by same09.py out of Same.in. -/
namespace Go.Proofs.YtccmjljlfgbicaaGreat
open Go.ChangeShapes Go.WideShapes Go.ChangeAt Go.RowKit

theorem take_same {α : Type} {l m : List α} {i : Nat} {p : α} (h : l.take i = m.take i) (hl : l[i]? = some p) (hm : m[i]? = some p) : l.take (i + 1) = m.take (i + 1) := by
  rw [List.take_add_one, List.take_add_one, h, hl, hm]

set_option maxRecDepth 100000 in
set_option maxHeartbeats 4000000 in
theorem same09_any {l m : List (Int × Int)} {N M : Nat → Prop} {v u : Value} (w : World) (hp : PairsIn w N v l) (hq : PairsIn w M u m) (hl : l.length ≤ 100000) :
    Calls Tryz.prog 50 #[v, u] w fun e w' => e = .returned (.bool (decide (l = m))) ∧ Below w.heap.size w w' := by
  obtain ⟨ao, cap, rfl⟩ := hp.form
  obtain ⟨bo, cap2, rfl⟩ := hq.form
  have HP := Lib.hid hp
  have HQ := Lib.hid hq
  clear hp hq
  by_cases hlen : l.length = m.length
  · have HL := Lib.hid hlen
    rw [← hlen]
    obtain ⟨n, hn⟩ : ∃ n, n = l.length := ⟨_, rfl⟩
    have HN := Lib.hid hn
    rw [← hn] at hl ⊢
    clear hlen hn
    go_enter Tryz.func50, Tryz.ntmps50
    go_wp2_with fail
    go_loopg [5] n (fun gg v5 wr => ∃ i : Nat, v5 = .int .i64 i ∧ i + gg = n ∧ l.take i = m.take i ∧ Below w.heap.size w wr)
    case atStart => exact ⟨0, rfl, by omega, rfl, Below.refl _ _⟩
    case round =>
      obtain ⟨i, rfl, hi, ht, hb⟩ := hrel
      have HT := Lib.hid ht
      clear ht
      by_cases hlt : i < n
      · have hlt1 : i < l.length := by rw [← HN.out]; exact hlt
        have hlt2 : i < m.length := by rw [← HL.out]; exact hlt1
        obtain ⟨p, hpi⟩ : ∃ p, l[i]? = some p := ⟨_, List.getElem?_eq_getElem hlt1⟩
        obtain ⟨q, hqi⟩ : ∃ q, m[i]? = some q := ⟨_, List.getElem?_eq_getElem hlt2⟩
        obtain ⟨b1, o1, rfl, _, c0, c1⟩ := (HP.out.below hb).at_ hpi
        obtain ⟨b2, o2, rfl, _, d0, d1⟩ := (HQ.out.below hb).at_ hqi
        have HPI := Lib.hid hpi
        have HQI := Lib.hid hqi
        clear hpi hqi hlt1 hlt2
        go_wp2_with fail
        refine wp_region_J (l := [_, _, _, _, _, _, _, _, _]) (QG (fun j v => match j with | 0 => v = .slice (some ⟨b1, o1, none⟩) n cap | 1 => v = .int .i64 i | 2 => v = .pointer (some ⟨b1, o1 + i * 2, none⟩) | 3 => v = .agg #[.int .u64 p.1, .int .u64 p.2] | 4 => v = .slice (some ⟨b2, o2, none⟩) n cap2 | 5 => v = .int .i64 i | 6 => v = .pointer (some ⟨b2, o2 + i * 2, none⟩) | 7 => v = .agg #[.int .u64 q.1, .int .u64 q.2] | 8 => v = .bool (!decide (p = q)) | _ => True) wr) (by kernel_rfl) (by kernel_rfl) (fun us => QG.start us) ⟨?_, ?_, ?_, ?_, ?_, ?_, ?_, ?_, ?_, trivial⟩ ?_
        · intro dn us w6 A hev hy hG hdn hdep K hK
          have e0 : A.eval (.tmp 0) = .slice (some ⟨b1, o1, none⟩) n cap := by rw [hev]; rfl
          rw [if_pos (by rfl)]; unfold Oper.wp execOp; generalize A.eval = ev at e0 ⊢; go_simp; exact hK _ _ (hG.first (by first | rfl | (simp; done) | (simp; omega) | (simp; assumption)))
        · intro dn us w6 A hev hy hG hdn hdep K hK
          have e0 : A.eval (.tmp 5) = .int .i64 i := by rw [hev]; rfl
          rw [if_pos (by rfl)]; unfold Oper.wp execOp; generalize A.eval = ev at e0 ⊢; go_simp; exact hK _ _ (hG.first (by first | rfl | (simp; done) | (simp; omega) | (simp; assumption)))
        · intro dn us w6 A hev hy hG hdn hdep K hK
          have e0 : A.eval (.tmp 17) = .slice (some ⟨b1, o1, none⟩) n cap := by rw [hev]; exact hG.pre 0 (dm 0 hdep rfl)
          have e1 : A.eval (.tmp 18) = .int .i64 i := by rw [hev]; exact hG.pre 1 (dm 1 hdep rfl)
          rw [if_pos (by rfl)]; unfold Oper.wp execOp; generalize A.eval = ev at e0 e1 ⊢; go_simp; exact hK _ _ (hG.first (by first | rfl | (simp; done) | (simp; omega) | (simp; assumption)))
        · intro dn us w6 A hev hy hG hdn hdep K hK
          have e0 : A.eval (.tmp 19) = .pointer (some ⟨b1, o1 + i * 2, none⟩) := by rw [hev]; exact hG.pre 2 (dm 2 hdep rfl)
          have zc0 : w6.cell? ⟨b1, o1 + i * 2, none⟩ = some (.int .u64 p.1) := by rw [hG.below.cell (World.block_lt_of_cell? _ _ c0)]; exact c0
          have zc1 : w6.cell? ⟨b1, o1 + i * 2 + 1, none⟩ = some (.int .u64 p.2) := by rw [hG.below.cell (World.block_lt_of_cell? _ _ c1)]; exact c1
          rw [if_pos (by rfl)]; unfold Oper.wp execOp; generalize A.eval = ev at e0 ⊢; go_simp; exact hK _ _ (hG.first (by first | rfl | (simp; done) | (simp; omega) | (simp; assumption)))
        · intro dn us w6 A hev hy hG hdn hdep K hK
          have e0 : A.eval (.tmp 1) = .slice (some ⟨b2, o2, none⟩) n cap2 := by rw [hev]; rfl
          rw [if_pos (by rfl)]; unfold Oper.wp execOp; generalize A.eval = ev at e0 ⊢; go_simp; exact hK _ _ (hG.first (by first | rfl | (simp; done) | (simp; omega) | (simp; assumption)))
        · intro dn us w6 A hev hy hG hdn hdep K hK
          have e0 : A.eval (.tmp 5) = .int .i64 i := by rw [hev]; rfl
          rw [if_pos (by rfl)]; unfold Oper.wp execOp; generalize A.eval = ev at e0 ⊢; go_simp; exact hK _ _ (hG.first (by first | rfl | (simp; done) | (simp; omega) | (simp; assumption)))
        · intro dn us w6 A hev hy hG hdn hdep K hK
          have e0 : A.eval (.tmp 21) = .slice (some ⟨b2, o2, none⟩) n cap2 := by rw [hev]; exact hG.pre 4 (dm 4 hdep rfl)
          have e1 : A.eval (.tmp 22) = .int .i64 i := by rw [hev]; exact hG.pre 5 (dm 5 hdep rfl)
          rw [if_pos (by rfl)]; unfold Oper.wp execOp; generalize A.eval = ev at e0 e1 ⊢; go_simp; exact hK _ _ (hG.first (by first | rfl | (simp; done) | (simp; omega) | (simp; assumption)))
        · intro dn us w6 A hev hy hG hdn hdep K hK
          have e0 : A.eval (.tmp 23) = .pointer (some ⟨b2, o2 + i * 2, none⟩) := by rw [hev]; exact hG.pre 6 (dm 6 hdep rfl)
          have zd0 : w6.cell? ⟨b2, o2 + i * 2, none⟩ = some (.int .u64 q.1) := by rw [hG.below.cell (World.block_lt_of_cell? _ _ d0)]; exact d0
          have zd1 : w6.cell? ⟨b2, o2 + i * 2 + 1, none⟩ = some (.int .u64 q.2) := by rw [hG.below.cell (World.block_lt_of_cell? _ _ d1)]; exact d1
          rw [if_pos (by rfl)]; unfold Oper.wp execOp; generalize A.eval = ev at e0 ⊢; go_simp; exact hK _ _ (hG.first (by first | rfl | (simp; done) | (simp; omega) | (simp; assumption)))
        · intro dn us w6 A hev hy hG hdn hdep K hK
          have e0 : A.eval (.tmp 20) = .agg #[.int .u64 p.1, .int .u64 p.2] := by rw [hev]; exact hG.pre 3 (dm 3 hdep rfl)
          have e1 : A.eval (.tmp 24) = .agg #[.int .u64 q.1, .int .u64 q.2] := by rw [hev]; exact hG.pre 7 (dm 7 hdep rfl)
          rw [if_pos (by rfl)]; unfold Oper.wp execOp; generalize A.eval = ev at e0 e1 ⊢; go_simp; by_cases f1 : p.1 = q.1
          · rw [if_pos f1]
            by_cases f2 : p.2 = q.2
            · rw [if_pos f2]
              exact hK (.bool false) _ (hG.first (by show Value.bool false = .bool (!decide (p = q)); rw [decide_eq_true (Prod.ext f1 f2)]; rfl))
            · rw [if_neg f2]
              exact hK (.bool true) _ (hG.first (by show Value.bool true = .bool (!decide (p = q)); rw [decide_eq_false (fun h => f2 (by rw [h]))]; rfl))
          · rw [if_neg f1]
            exact hK (.bool true) _ (hG.first (by show Value.bool true = .bool (!decide (p = q)); rw [decide_eq_false (fun h => f1 (by rw [h]))]; rfl))
        intro dn us wA hG hall
        have u8 : us 8 = .bool (!decide (p = q)) := hG.pre 8 (hall 8 (by decide))
        have DA := hG.below
        by_cases hpq : p = q
        · rw [decide_eq_true hpq, Bool.not_true] at u8
          simp only [fillA, fillT, Nat.reduceAdd, List.setIfInBounds_toArray, List.set_cons_zero, List.set_cons_succ, u8]
          clear hG hall u8
          go_wp2_with fail
          go_roundg (n - (i + 1))
          case measure => omega
          case rel => exact ⟨i + 1, rfl, by omega, take_same HT.out HPI.out (by rw [hpq]; exact HQI.out), hb.trans (DA.mono hb.size)⟩
        · rw [decide_eq_false hpq, Bool.not_false] at u8
          simp only [fillA, fillT, Nat.reduceAdd, List.setIfInBounds_toArray, List.set_cons_zero, List.set_cons_succ, u8]
          clear hG hall u8
          go_wp2_with fail
          go_ret
          refine ⟨?_, hb.trans (DA.mono hb.size)⟩
          rw [decide_eq_false fun e => hpq ?_]
          · rfl
          · have h1 := HPI.out
            rw [e, HQI.out] at h1
            exact (Option.some.inj h1).symm
      · have e : i = n := by omega
        go_wp2_with fail
        go_ret
        refine ⟨?_, hb⟩
        have e2 : l = m := by
          have h := HT.out
          rwa [e, HN.out, List.take_length, HL.out, List.take_length] at h
        rw [decide_eq_true e2]
        rfl
  · have hne : ((l.length : Int) != (m.length : Int)) = true := by rw [bne_iff_ne]; omega
    go_enter Tryz.func50, Tryz.ntmps50
    go_wp2_with fail
    go_ret
    exact ⟨by rw [decide_eq_false (fun e => hlen (by rw [e]))]; rfl, Below.refl _ _⟩
end Go.Proofs.YtccmjljlfgbicaaGreat

/- Regions that draw their order and turn nothing; what is told of the values may speak of memory. -/
namespace Go.Proofs.YtccmjljlfgbicaaGreat
open Go.ChangeShapes Go.WideShapes Go.ChangeAt Go.RowKit

structure QW (F : Nat → Value → Prop) (n1 : Nat) (R : World → Value → Prop) (W : World) (dn : Nat → Bool) (us : Nat → Value) (w : World) : Prop where
  below : Below W.heap.size W w
  pre : ∀ j, dn j = true → F j (us j)
  mem : dn n1 = true → R w (us n1)
section
variable {F : Nat → Value → Prop} {n1 : Nat} {R : World → Value → Prop} {W w w' : World} {dn : Nat → Bool} {us : Nat → Value}
theorem QW.start (us : Nat → Value) : QW F n1 R W (fun _ => false) us W.drew := ⟨(Below.refl _ W).drew, fun _ e => (by cases e), fun e => (by cases e)⟩
theorem QW.called (h : QW F n1 R W dn us w) {i : Nat} (hi : i ≠ n1) (hR : ∀ w w' v, R w v → Below w.heap.size w w' → R w' v) {v : Value} (hv : F i v) (hb : Below w.heap.size w w') : QW F n1 R W (updB dn i) (updN us i v) w' :=
  ⟨h.below.trans (hb.mono h.below.size), fun j e => by
    by_cases q : j = i
    · subst q; rw [updN_eq]; exact hv
    · rw [updB_ne q] at e; rw [updN_ne q]; exact h.pre j e, fun e => by
    rw [updB_ne hi.symm] at e; rw [updN_ne hi.symm]; exact hR _ _ _ (h.mem e) hb⟩
theorem QW.first (h : QW F n1 R W dn us w) {i : Nat} (hi : i ≠ n1) {v : Value} (hv : F i v) : QW F n1 R W (updB dn i) (updN us i v) w :=
  ⟨h.below, fun j e => by
    by_cases q : j = i
    · subst q; rw [updN_eq]; exact hv
    · rw [updB_ne q] at e; rw [updN_ne q]; exact h.pre j e, fun e => by
    rw [updB_ne hi.symm] at e; rw [updN_ne hi.symm]; exact h.mem e⟩
theorem QW.told (h : QW F n1 R W dn us w) {v : Value} (hv : F n1 v) (hr : R w' v) (hb : Below w.heap.size w w') : QW F n1 R W (updB dn n1) (updN us n1 v) w' :=
  ⟨h.below.trans (hb.mono h.below.size), fun j e => by
    by_cases q : j = n1
    · subst q; rw [updN_eq]; exact hv
    · rw [updB_ne q] at e; rw [updN_ne q]; exact h.pre j e, fun _ => by rw [updN_eq]; exact hr⟩
end
end Go.Proofs.YtccmjljlfgbicaaGreat

/- ScanQuiet, the walk. Printed by quiw.py out of QuiW.in. -/
namespace Go.Proofs.YtccmjljlfgbicaaGreat
open Go.ChangeShapes Go.WideShapes Go.ChangeAt Go.RowKit

abbrev GCall.cs (c : GCall) : Array Value := #[.int .i64 c.kind, .int .u64 c.key, .int .u64 c.val, .int .i64 c.limit]
def wantL (c : GCall) (l : List (Int × Int)) : List (Int × Int) := (rangeL c l).take c.limit.toNat
theorem take_snoc (l : List (Int × Int)) (p : Int × Int) (n : Nat) : (l ++ [p]).take n = if (l.take n).length < n then l.take n ++ [p] else l.take n := by
  by_cases h : l.length < n
  · have e : l.take n = l := List.take_of_length_le (by omega)
    rw [e, if_pos h, List.take_of_length_le (by simp; omega)]
  · rw [if_neg (by rw [List.length_take]; omega), List.take_append_of_le_length (by omega)]
theorem want_next {c : GCall} {l : List (Int × Int)} {i : Nat} {p : Int × Int} (h : l[i]? = some p) : wantL c (l.take (i + 1)) = if (c.key ≤ p.1 ∧ p.1 ≤ c.val) ∧ ((wantL c (l.take i)).length : Int) < c.limit then wantL c (l.take i) ++ [p] else wantL c (l.take i) := by
  unfold wantL rangeL
  rw [List.take_add_one, h, List.filter_append]
  by_cases hr : c.key ≤ p.1 ∧ p.1 ≤ c.val
  · have e : List.filter (fun p => decide (c.key ≤ p.1 ∧ p.1 ≤ c.val)) (some p).toList = [p] := by simp [hr]
    rw [e, take_snoc]
    by_cases hl : ((List.take c.limit.toNat (List.filter (fun p => decide (c.key ≤ p.1 ∧ p.1 ≤ c.val)) (List.take i l))).length : Int) < c.limit
    · rw [if_pos (by omega), if_pos ⟨hr, hl⟩]
    · rw [if_neg (by omega), if_neg (fun q => hl q.2)]
  · have e : List.filter (fun p => decide (c.key ≤ p.1 ∧ p.1 ≤ c.val)) (some p).toList = [] := by simp; omega
    rw [e, List.append_nil, if_neg fun q => hr q.1]

set_option maxRecDepth 100000 in
set_option maxHeartbeats 4000000 in
theorem quiet_walk {x : Scene} {v : Value} {ia ca : Option Addr} {ic cc : Nat} (c0 : GCall) (w : World) (hx : x.fits) (hS : SceneAt w v x ia ca ic cc) (hcf : c0.fits) (hlim : c0.limit ≤ 9223372036854775807) :
    Calls Tryz.prog 11 #[v, c0.v] w fun e w' => e = .returned (.bool true) ∧ Below w.heap.size w w' := by
  have HS := Lib.hid hS
  obtain ⟨rfl, _, _⟩ := hS
  have HX := Lib.hid hx
  obtain ⟨c, hc⟩ : ∃ c : GCall, c = { c0 with kind := 4 } := ⟨_, rfl⟩
  have HCF := Lib.hid (show c.fits by rw [hc]; exact hcf)
  have HK4 := Lib.hid (show c.kind = 4 by rw [hc])
  have HLM := Lib.hid (show c.limit ≤ 9223372036854775807 by rw [hc]; exact hlim)
  have HCS := Lib.hid (show (#[.int .i64 4, .int .u64 c0.key, .int .u64 c0.val, .int .i64 c0.limit] : Array Value) = c.cs by rw [hc])
  clear hx hcf hlim
  have E2 := (At.new w 25 #[.int .u8 x.fuel, .slice ia x.items.length ic, .slice ca x.calls.length cc]).alloc (.cells c0.cs 28)
  have E3 := At.new1 w (.cells #[.int .u8 x.fuel, .slice ia x.items.length ic, .slice ca x.calls.length cc] 25) 28 c0.cs
  have D0 := below_twice w (.cells #[.int .u8 x.fuel, .slice ia x.items.length ic, .slice ca x.calls.length cc] 25) (.cells c0.cs 28)
  cases hfew : x.few with
  | false =>
    have HF := Lib.hid hfew
    clear hfew
    go_enter Tryz.func11, Tryz.ntmps11
    go_upto_region 1 with fail
    generalize (w.alloc (.cells #[.int .u8 x.fuel, .slice ia x.items.length ic, .slice ca x.calls.length cc] 25)).alloc (.cells #[.int .i64 c0.kind, .int .u64 c0.key, .int .u64 c0.val, .int .i64 c0.limit] 28) = w0 at *
    go_wp2_with (first
      | (go_at_call 14; refine (few_any _).mono ?_; rintro e w3 ⟨rfl, hb3⟩; rw [HF.out])
      | (refine wpl_ld rfl 25 _ rfl #[.int .u8 x.fuel, .slice ia x.items.length ic, .slice ca x.calls.length cc] rfl _ ((E2.below' hb1).only O2 (by show ¬ _ = _; omega)) Tryz.underlying25 rfl (by kernel_rfl) rfl ?_)
      | (refine wpl_st rfl 3 _ _ rfl #[.int .i64 4, .int .u64 c0.key, .int .u64 c0.val, .int .i64 c0.limit] rfl _ rfl (E3.below' hb1) (by kernel_rfl) rfl rfl rfl ?_; intro w2 A2 O2)
      | (go_at_call 13; refine (awake18_any _).mono ?_; rintro e w1 ⟨rfl, hb1⟩))
    go_ret
    have D1 := D0.trans (hb1.mono D0.size)
    have D2 : Below w.heap.size w w2 := D1.trans (O2.below D1.size fun i hi e => by have e' : i = w.heap.size + 1 := e; omega)
    exact ⟨rfl, D2.trans (hb3.mono D2.size)⟩
  | true =>
    have HF := Lib.hid hfew
    have hlen : x.items.length ≤ 12 ∧ x.calls.length ≤ 6 := by
      unfold Scene.few at hfew
      simpa using hfew
    clear hfew
    have HL := Lib.hid hlen
    have hlp := lay_path HX.out hlen.1
    have hbk : x.lay.c.buckets = 1 := by rw [hlp.2.1]; rfl
    have HBK := Lib.hid hbk
    have hch : (x.lay.chain 0).length ≤ 12 := by rw [lay_chain HX.out hlen.1, laidL_len]; exact hlen.1
    have hpl : x.lay.prs.length ≤ 12 := Nat.le_trans (by unfold St.prs; rw [isort_len]; exact prs_len _ _ _ _) hch
    have HCH := Lib.hid (show (x.lay.chain 0).length ≤ 19 by omega)
    obtain ⟨sb, hsb⟩ : ∃ sb, x.lay.sound = sb := ⟨_, rfl⟩
    have HSB := Lib.hid hsb
    have hqu : sb = true → _ := fun h => quiet_law HX.out hlen.1 (show x.sound by rw [← hsb, St.sound_one hbk] at h; exact h) (c := c) HK4.out
    have hG0 := good_new x.lay 1 c hbk
    have hB0 : (x.lay.scnNew 1 c).1.c.buckets = 1 := by rw [scnNew_c]; exact hbk
    dsimp only at hqu
    generalize hq0 : x.lay.scnNew 1 c = q0 at hqu hG0 hB0
    obtain ⟨s1, y1⟩ := q0
    dsimp only at hG0 hB0
    generalize hp0 : scnIter 300 (s1, y1) = p0 at hqu
    have HQ0 := Lib.hid hq0
    have HP0 := Lib.hid hp0
    have HG0 := Lib.hid hG0
    have HB0 := Lib.hid hB0
    have HQU := Lib.hid hqu
    clear hlp hlen hbk hch hsb hqu hq0 hp0 hG0 hB0 hc
    go_enter Tryz.func11, Tryz.ntmps11
    go_upto_region 1 with fail
    generalize (w.alloc (.cells #[.int .u8 x.fuel, .slice ia x.items.length ic, .slice ca x.calls.length cc] 25)).alloc (.cells #[.int .i64 c0.kind, .int .u64 c0.key, .int .u64 c0.val, .int .i64 c0.limit] 28) = w0 at *
    go_upto_region 6 with (first
      | (go_at_call 15; refine (lay18_any w3 HX.out HL.out.1 HL.out.2 ⟨rfl, HS.out.items.below D3, HS.out.calls.below D3⟩).mono ?_; rintro e w4 ⟨k, rfl, hH4, hK4, hb4⟩)
      | (refine wpl_ld rfl 25 _ rfl #[.int .u8 x.fuel, .slice ia x.items.length ic, .slice ca x.calls.length cc] rfl _ (((E2.below' hb1).only O2 (by show ¬ _ = _; omega)).below' hb3) Tryz.underlying25 rfl (by kernel_rfl) rfl ?_)
      | (go_at_call 14; refine (few_any _).mono ?_; rintro e w3 ⟨rfl, hb3⟩; rw [HF.out]
         have D1 := D0.trans (hb1.mono D0.size)
         have D2 : Below w.heap.size w w2 := D1.trans (O2.below D1.size fun i hi e => by have e' : i = w.heap.size + 1 := e; omega)
         have D3 := D2.trans (hb3.mono D2.size)
         have B3 := A2.below' hb3
         rw [HCS.out] at B3)
      | (refine wpl_ld rfl 25 _ rfl #[.int .u8 x.fuel, .slice ia x.items.length ic, .slice ca x.calls.length cc] rfl _ ((E2.below' hb1).only O2 (by show ¬ _ = _; omega)) Tryz.underlying25 rfl (by kernel_rfl) rfl ?_)
      | (refine wpl_st rfl 3 _ _ rfl #[.int .i64 4, .int .u64 c0.key, .int .u64 c0.val, .int .i64 c0.limit] rfl _ rfl (E3.below' hb1) (by kernel_rfl) rfl rfl rfl ?_; intro w2 A2 O2)
      | (go_at_call 13; refine (awake18_any _).mono ?_; rintro e w1 ⟨rfl, hb1⟩))
    have D4 := D3.trans (hb4.mono D3.size)
    have E4 := (((E2.below' hb1).only O2 (by show ¬ _ = _; omega)).below' hb3).below' hb4
    have B4 := B3.below' hb4
    have HOW := Lib.hid (show ∀ z, Own k z → w.heap.size + 1 + 1 ≤ z from fun z e => by have := hK4 z (.inr (.inr e)); have := B3.lt; omega)
    clear hb1 A2 O2 hb3 D0 D1 D2 D3 B3 hb4 E2 E3 hK4
    cases sb with
    | false =>
      go_wp2_with (go_at_call 34; refine (lSound_any w4 hH4).mono ?_; rintro e w5 ⟨rfl, hb5⟩; rw [HSB.out])
      go_ret
      exact ⟨rfl, D4.trans (hb5.mono D4.size)⟩
    | true =>
      obtain ⟨l1, l2, l3, l4, l5, l6, l7, l8, l9⟩ := HQU.out rfl
      have NB : ¬ Own k (w.heap.size + 1) := fun e => by have := HOW.out _ e; omega
      have NE : ¬ Own k w.heap.size := fun e => by have := HOW.out _ e; omega
      go_upto_region 12 with (first
        | (refine wpl_st rfl 53 _ _ rfl (p0.2.cells (.slice b1 m1 d1) (.slice e1 n1 f1)) rfl _ rfl (At.new w8 _ _) (by kernel_rfl) rfl rfl rfl ?_; intro w9 A9 O9)
        | (go_at_call 52; refine (finish_any (N := fun z => ¬ Own k z) (m := 0) (s := s1) y1 w7 H7 I7 HG0.out (by decide) HB0.out (fun z hz => H7.fresh hz) (fun z hz => hz)).mono ?_; rintro e w8 hS
           rw [HP0.out] at hS
           obtain ⟨lv8, pv8, rfl, H8, I8, O8⟩ := hS.out
           obtain ⟨b1, m1, d1, rfl⟩ := I8.lists.formN
           obtain ⟨e1, f1, rfl⟩ := I8.pairs.form
           generalize hn1 : p0.2.pairs.length = n1 at *)
        | (go_at_call 17; refine (snew_any (N := fun z => ¬ Own k z) 1 c w6 H6.out HCF.out (fun z hz => H6.out.fresh hz) HBK.out).mono ?_; rintro e w7 hS
           rw [HQ0.out] at hS
           obtain ⟨lv7, pv7, rfl, H7, I7, O7⟩ := hS.out
           obtain ⟨x1, x2, x3, rfl⟩ := I7.lists.formN
           obtain ⟨x4, x5, rfl⟩ := I7.pairs.form)
        | (refine wpl_ld rfl 28 _ rfl c.cs rfl _ ((B4.below' hb5).below' hb6) Tryz.underlying28 rfl (by kernel_rfl) rfl ?_)
        | (go_at_call 24; refine (steps_any w6 H6.out.cells).mono ?_; rintro e w6' ⟨rfl, rfl⟩)
        | (go_at_call 48; refine (lpairs_any w5 (hH4.below hb5) HBK.out HCH.out).mono ?_; rintro e w6 ⟨v6, rfl, hR6, hb6⟩
           have P6 := PairsIn.of_row (N := fun z => ¬ Own k z) hR6 (fun z hz => (hH4.below hb5).fresh hz)
           obtain ⟨pa, pc, rfl⟩ := P6.form
           have H6 := Lib.hid ((hH4.below hb5).below hb6)
           obtain ⟨-, g5, -, gl⟩ := H6.out.wfacts)
        | (go_at_call 34; refine (lSound_any w4 hH4).mono ?_; rintro e w5 ⟨rfl, hb5⟩; rw [HSB.out]))
      have D89 : Below w8.heap.size w8 w9 := ((Below.refl _ w8).alloc (Nat.le_refl _) _).trans (O9.below (by simp) fun j hj e => by have e' : j = w8.heap.size := e; omega)
      have O69 : Only (Own k) w6 w9 := (O7.trans O8).thenBelow D89
      have D6 := (D4.trans (hb5.mono D4.size)).trans (hb6.mono (by have := D4.size; have := hb5.size; omega))
      have D9 : Below w.heap.size w w9 := D6.trans (O69.below D6.size fun z hz e => by have := HOW.out z e; omega)
      have B9 := ((B4.below' hb5).below' hb6).only O69 NB
      have E9 := ((E4.below' hb5).below' hb6).only O69 NE
      have H9 := H8.below D89
      have P9 := P6.only O69 (fun z hz => hz)
      have S9 := I8.pairs.below D89
      have HHR := Lib.hid H9
      have HBR := Lib.hid (show p0.1.c.buckets = 1 by rw [l5]; exact HBK.out)
      have HCR := Lib.hid (show (p0.1.chain 0).length ≤ 19 by omega)
      have HPR := Lib.hid l4
      have HEQ := Lib.hid (show p0.2.pairs = wantL c x.lay.prs from l3)
      have hw30 : IntKind.i64.wrap (p0.1.steps - x.lay.steps) = p0.1.steps - x.lay.steps := IntWalk.i64_in _ (by have := HL.out.1; omega)
      have hw34 : IntKind.i64.wrap (2 * (x.items.length : Int)) = 2 * (x.items.length : Int) := IntWalk.i64_in _ (by have := HL.out.1; omega)
      have hw35 : IntKind.i64.wrap (2 * (x.items.length : Int) + 1) = 2 * (x.items.length : Int) + 1 := IntWalk.i64_in _ (by have := HL.out.1; omega)
      have hstp : p0.1.steps - x.lay.steps ≤ 2 * (x.items.length : Int) + 1 := by omega
      have x9 : w9.cell? ⟨w8.heap.size, 9, none⟩ = some (.bool true) := by rw [← l1]; exact A9.cell 9
      have x11 : w9.cell? ⟨w8.heap.size, 11, none⟩ = some (.bool true) := by rw [← l2]; exact A9.cell 11
      have x13 : w9.cell? ⟨w8.heap.size, 13, none⟩ = some (.slice e1 n1 f1) := A9.cell 13
      have HX9 := Lib.hid (And.intro x9 (And.intro x11 x13))
      have hsl : n1 ≤ 100000 := by
        have h := congrArg List.length l3
        rw [hn1] at h
        have : (rangeL c x.lay.prs).length ≤ x.lay.prs.length := List.length_filter_le _ _
        rw [List.length_take] at h
        omega
      have HN1 := Lib.hid hn1
      obtain ⟨i0, hi0, hz0, hz1, hz2⟩ := info_parts pairinfoA
      obtain ⟨pn, hpn⟩ : ∃ pn, pn = x.lay.prs.length := ⟨_, rfl⟩
      have HPN := Lib.hid hpn
      rw [← hpn] at P9 hpl ⊢
      have HP9 := Lib.hid P9
      have HS9 := Lib.hid S9
      have HA9 := Lib.hid A9
      clear hn1 hpn P9 S9 A9 x9 x11 x13 l1 l2 l3 l4 l5 l6 l7 l8 l9 H9 D89 O69 D6 hb5 hb6 hR6 P6 H6 g5 gl H7 I7 O7 hS H8 I8 O8 O9 B4 E4 hH4
      generalize w8.heap.size = g at *
      go_wp2_with fail
      go_loopg [10, 11] pn (fun gg v10 v11 wr => ∃ i : Nat, v11 = .int .i64 i ∧ i + gg = pn ∧ wr.ownsRow w9.heap.size 103 2 v10 (wantL c (x.lay.prs.take i)).length (pairsV (wantL c (x.lay.prs.take i))) ∧ Below w9.heap.size w9 wr)
      case atStart => exact ⟨0, rfl, by omega, by rw [show wantL c (x.lay.prs.take 0) = [] by unfold wantL rangeL; simp]; exact World.ownsRow_nil _ _ _ _, Below.refl _ _⟩
      case round =>
        obtain ⟨i, rfl, hi, hrow, hb⟩ := hrel
        have PW := PairsIn.of_row (N := fun _ => True) hrow (fun _ _ => trivial)
        obtain ⟨wa, wc, rfl⟩ := PW.form
        by_cases hlt : i < pn
        · obtain ⟨p, hpi⟩ : ∃ p, x.lay.prs[i]? = some p := ⟨_, List.getElem?_eq_getElem (by rw [← HPN.out]; exact hlt)⟩
          obtain ⟨pb, po, rfl, _, p0c, p1c⟩ := (HP9.out.below hb).at_ hpi
          have HNX := Lib.hid (want_next (c := c) hpi)
          have hwn : (wantL c (x.lay.prs.take i)).length ≤ 1000 := by
            unfold wantL rangeL
            have h1 := List.length_take_le c.limit.toNat (List.filter (fun p => decide (c.key ≤ p.1 ∧ p.1 ≤ c.val)) (x.lay.prs.take i))
            have h2 : (List.filter (fun p => decide (c.key ≤ p.1 ∧ p.1 ≤ c.val)) (x.lay.prs.take i)).length ≤ (x.lay.prs.take i).length := List.length_filter_le _ _
            have h3 : (x.lay.prs.take i).length ≤ x.lay.prs.length := List.length_take_le' _ _
            have := HPN.out
            rw [List.length_take]
            omega
          obtain ⟨wl, hwl⟩ : ∃ wl, wantL c (x.lay.prs.take i) = wl := ⟨_, rfl⟩
          rw [hwl] at hrow hwn PW HNX
          obtain ⟨wn, hwnn⟩ : ∃ wn, wl.length = wn := ⟨_, rfl⟩
          have HWN := Lib.hid hwnn
          have HWL := Lib.hid hwl
          rw [hwl, hwnn]
          rw [hwnn] at hrow hwn PW
          have HRW := Lib.hid hrow
          have hBW := B9.below' hb
          have k1 : wr.cell? ⟨w.heap.size + 1, 1, none⟩ = some (.int .u64 c.key) := hBW.cell 1
          have k2 : wr.cell? ⟨w.heap.size + 1, 2, none⟩ = some (.int .u64 c.val) := hBW.cell 2
          have k3 : wr.cell? ⟨w.heap.size + 1, 3, none⟩ = some (.int .i64 c.limit) := hBW.cell 3
          have p0 := p0c
          have hkeep : ∀ wA : World, Below wr.heap.size wr wA → ¬ ((c.key ≤ p.1 ∧ p.1 ≤ c.val) ∧ (wn : Int) < c.limit) → wA.ownsRow w9.heap.size 103 2 (.slice wa wn wc) (wantL c (x.lay.prs.take (i + 1))).length (pairsV (wantL c (x.lay.prs.take (i + 1)))) := by
            intro wA hA hn
            have h := HNX.out
            rw [HWN.out, if_neg hn] at h
            rw [h, HWN.out]
            exact ownsRow_still HRW.out hA
          have HKP := Lib.hid hkeep
          clear hpi p0c hkeep hwl hwnn hrow
          by_cases q1 : c.key ≤ p.1
          case neg =>
            go_wp2_with fail
            refine wp_region_J (l := [_, _, _, _, _, _, _, _, _, _, _, _, _, _, _, _, _, _, _, _, _, _, _, _, _]) (QG (fun j v => match j with | 0 => v = .slice (some ⟨pb, po, none⟩) pn pc | 1 => v = .int .i64 i | 2 => v = .pointer (some ⟨pb, po + i * 2, none⟩) | 3 => v = .pointer (some ⟨pb, po + i * 2, none⟩) | 4 => v = .int .u64 p.1 | 5 => v = .pointer (some ⟨w.heap.size + 1, 1, none⟩) | 6 => v = .int .u64 c.key | 7 => v = .bool false | 8 => v = .bool false | 17 => v = .bool false | 18 => v = .bool false | 24 => v = .bool false | _ => True) wr) (by kernel_rfl) (by kernel_rfl) (fun us => QG.start us) ⟨?_, ?_, ?_, ?_, ?_, ?_, ?_, ?_, ?_, ?_, ?_, ?_, ?_, ?_, ?_, ?_, ?_, ?_, ?_, ?_, ?_, ?_, ?_, ?_, ?_, trivial⟩ ?_
            · intro dn us w6 A hev hy hG hdn hdep K hK
              have e0 : A.eval (.tmp 7) = .slice (some ⟨pb, po, none⟩) pn pc := by rw [hev]; rfl
              rw [if_pos (by rfl)]; unfold Oper.wp execOp; generalize A.eval = ev at e0 ⊢; go_simp; exact hK _ _ (hG.first (by first | rfl | (simp; done) | (simp; omega) | (simp; assumption)))
            · intro dn us w6 A hev hy hG hdn hdep K hK
              have e0 : A.eval (.tmp 11) = .int .i64 i := by rw [hev]; rfl
              rw [if_pos (by rfl)]; unfold Oper.wp execOp; generalize A.eval = ev at e0 ⊢; go_simp; exact hK _ _ (hG.first (by first | rfl | (simp; done) | (simp; omega) | (simp; assumption)))
            · intro dn us w6 A hev hy hG hdn hdep K hK
              have e0 : A.eval (.tmp 50) = .slice (some ⟨pb, po, none⟩) pn pc := by rw [hev]; exact hG.pre 0 (dm 0 hdep rfl)
              have e1 : A.eval (.tmp 51) = .int .i64 i := by rw [hev]; exact hG.pre 1 (dm 1 hdep rfl)
              rw [if_pos (by rfl)]; unfold Oper.wp execOp; generalize A.eval = ev at e0 e1 ⊢; go_simp; exact hK _ _ (hG.first (by first | rfl | (simp; done) | (simp; omega) | (simp; assumption)))
            · intro dn us w6 A hev hy hG hdn hdep K hK
              have e0 : A.eval (.tmp 52) = .pointer (some ⟨pb, po + i * 2, none⟩) := by rw [hev]; exact hG.pre 2 (dm 2 hdep rfl)
              rw [if_pos (by rfl)]; unfold Oper.wp execOp; generalize A.eval = ev at e0 ⊢; go_simp; exact hK _ _ (hG.first (by first | rfl | (simp; done) | (simp; omega) | (simp; assumption)))
            · intro dn us w6 A hev hy hG hdn hdep K hK
              have e0 : A.eval (.tmp 53) = .pointer (some ⟨pb, po + i * 2, none⟩) := by rw [hev]; exact hG.pre 3 (dm 3 hdep rfl)
              have zp0 : w6.cell? ⟨pb, po + i * 2, none⟩ = some (.int .u64 p.1) := by rw [hG.below.cell (World.block_lt_of_cell? _ _ p0)]; exact p0
              rw [if_pos (by rfl)]; unfold Oper.wp execOp; generalize A.eval = ev at e0 ⊢; go_simp; exact hK _ _ (hG.first (by first | rfl | (simp; done) | (simp; omega) | (simp; assumption)))
            · intro dn us w6 A hev hy hG hdn hdep K hK
              have e0 : A.eval (.tmp 3) = .pointer (some ⟨w.heap.size + 1, 0, none⟩) := by rw [hev]; rfl
              rw [if_pos (by rfl)]; unfold Oper.wp execOp; generalize A.eval = ev at e0 ⊢; go_simp; exact hK _ _ (hG.first (by first | rfl | (simp; done) | (simp; omega) | (simp; assumption)))
            · intro dn us w6 A hev hy hG hdn hdep K hK
              have e0 : A.eval (.tmp 55) = .pointer (some ⟨w.heap.size + 1, 1, none⟩) := by rw [hev]; exact hG.pre 5 (dm 5 hdep rfl)
              have zk1 : w6.cell? ⟨w.heap.size + 1, 1, none⟩ = some (.int .u64 c.key) := by rw [hG.below.cell (World.block_lt_of_cell? _ _ k1)]; exact k1
              rw [if_pos (by rfl)]; unfold Oper.wp execOp; generalize A.eval = ev at e0 ⊢; go_simp; exact hK _ _ (hG.first (by first | rfl | (simp; done) | (simp; omega) | (simp; assumption)))
            · intro dn us w6 A hev hy hG hdn hdep K hK
              have e0 : A.eval (.tmp 54) = .int .u64 p.1 := by rw [hev]; exact hG.pre 4 (dm 4 hdep rfl)
              have e1 : A.eval (.tmp 56) = .int .u64 c.key := by rw [hev]; exact hG.pre 6 (dm 6 hdep rfl)
              rw [if_pos (by rfl)]; unfold Oper.wp execOp; generalize A.eval = ev at e0 e1 ⊢; go_simp; exact hK _ _ (hG.first (by first | rfl | (simp; done) | (simp; omega) | (simp; assumption)))
            · intro dn us w6 A hev hy hG hdn hdep K hK
              have e0 : A.eval (.tmp 57) = .bool false := by rw [hev]; exact hG.pre 7 (dm 7 hdep rfl)
              rw [if_pos (by rfl)]; unfold Oper.wp execOp; generalize A.eval = ev at e0 ⊢; go_simp; exact hK _ _ (hG.first (by first | rfl | (simp; done) | (simp; omega) | (simp; assumption)))
            · intro dn us w6 A hev hy hG hdn hdep K hK
              have hg : us 8 = .bool false := hG.pre 8 (dm 8 hdep rfl)
              rw [if_neg (by rw [hy]; exact yn true hg rfl)]
              exact hK _ _ (hG.first trivial)
            · intro dn us w6 A hev hy hG hdn hdep K hK
              have hg : us 8 = .bool false := hG.pre 8 (dm 8 hdep rfl)
              rw [if_neg (by rw [hy]; exact yn true hg rfl)]
              exact hK _ _ (hG.first trivial)
            · intro dn us w6 A hev hy hG hdn hdep K hK
              have hg : us 8 = .bool false := hG.pre 8 (dm 8 hdep rfl)
              rw [if_neg (by rw [hy]; exact yn true hg rfl)]
              exact hK _ _ (hG.first trivial)
            · intro dn us w6 A hev hy hG hdn hdep K hK
              have hg : us 8 = .bool false := hG.pre 8 (dm 8 hdep rfl)
              rw [if_neg (by rw [hy]; exact yn true hg rfl)]
              exact hK _ _ (hG.first trivial)
            · intro dn us w6 A hev hy hG hdn hdep K hK
              have hg : us 8 = .bool false := hG.pre 8 (dm 8 hdep rfl)
              rw [if_neg (by rw [hy]; exact yn true hg rfl)]
              exact hK _ _ (hG.first trivial)
            · intro dn us w6 A hev hy hG hdn hdep K hK
              have hg : us 8 = .bool false := hG.pre 8 (dm 8 hdep rfl)
              rw [if_neg (by rw [hy]; exact yn true hg rfl)]
              exact hK _ _ (hG.first trivial)
            · intro dn us w6 A hev hy hG hdn hdep K hK
              have hg : us 8 = .bool false := hG.pre 8 (dm 8 hdep rfl)
              rw [if_neg (by rw [hy]; exact yn true hg rfl)]
              exact hK _ _ (hG.first trivial)
            · intro dn us w6 A hev hy hG hdn hdep K hK
              have hg : us 8 = .bool false := hG.pre 8 (dm 8 hdep rfl)
              rw [if_neg (by rw [hy]; exact yn true hg rfl)]
              exact hK _ _ (hG.first trivial)
            · intro dn us w6 A hev hy hG hdn hdep K hK
              have e0 : A.eval (.tmp 58) = .bool false := by rw [hev]; exact hG.pre 8 (dm 8 hdep rfl)
              have e1 : A.eval (.const (.bool false)) = .bool false := by rw [hev]; rfl
              rw [if_pos (by rfl)]; unfold Oper.wp execOp; generalize A.eval = ev at e0 e1 ⊢; go_simp; exact hK _ _ (hG.first (by first | rfl | (simp; done) | (simp; omega) | (simp; assumption)))
            · intro dn us w6 A hev hy hG hdn hdep K hK
              have e0 : A.eval (.tmp 67) = .bool false := by rw [hev]; exact hG.pre 17 (dm 17 hdep rfl)
              rw [if_pos (by rfl)]; unfold Oper.wp execOp; generalize A.eval = ev at e0 ⊢; go_simp; exact hK _ _ (hG.first (by first | rfl | (simp; done) | (simp; omega) | (simp; assumption)))
            · intro dn us w6 A hev hy hG hdn hdep K hK
              have hg : us 18 = .bool false := hG.pre 18 (dm 18 hdep rfl)
              rw [if_neg (by rw [hy]; exact yn true hg rfl)]
              exact hK _ _ (hG.first trivial)
            · intro dn us w6 A hev hy hG hdn hdep K hK
              have hg : us 18 = .bool false := hG.pre 18 (dm 18 hdep rfl)
              rw [if_neg (by rw [hy]; exact yn true hg rfl)]
              exact hK _ _ (hG.first trivial)
            · intro dn us w6 A hev hy hG hdn hdep K hK
              have hg : us 18 = .bool false := hG.pre 18 (dm 18 hdep rfl)
              rw [if_neg (by rw [hy]; exact yn true hg rfl)]
              exact hK _ _ (hG.first trivial)
            · intro dn us w6 A hev hy hG hdn hdep K hK
              have hg : us 18 = .bool false := hG.pre 18 (dm 18 hdep rfl)
              rw [if_neg (by rw [hy]; exact yn true hg rfl)]
              exact hK _ _ (hG.first trivial)
            · intro dn us w6 A hev hy hG hdn hdep K hK
              have hg : us 18 = .bool false := hG.pre 18 (dm 18 hdep rfl)
              rw [if_neg (by rw [hy]; exact yn true hg rfl)]
              exact hK _ _ (hG.first trivial)
            · intro dn us w6 A hev hy hG hdn hdep K hK
              have e0 : A.eval (.tmp 68) = .bool false := by rw [hev]; exact hG.pre 18 (dm 18 hdep rfl)
              have e1 : A.eval (.const (.bool false)) = .bool false := by rw [hev]; rfl
              rw [if_pos (by rfl)]; unfold Oper.wp execOp; generalize A.eval = ev at e0 e1 ⊢; go_simp; exact hK _ _ (hG.first (by first | rfl | (simp; done) | (simp; omega) | (simp; assumption)))
            intro dn us wA hG hall
            have u24 : us 24 = .bool false := hG.pre 24 (hall 24 (by decide))
            have DA := hG.below
            simp only [fillA, fillT, Nat.reduceAdd, List.setIfInBounds_toArray, List.set_cons_zero, List.set_cons_succ, u24]
            clear hG hall u24
            go_wp2_with fail
            go_roundg (pn - (i + 1))
            case measure => omega
            case rel => exact ⟨i + 1, rfl, by omega, HKP.out wA DA (by omega), hb.trans (DA.mono hb.size)⟩
          by_cases q2 : p.1 ≤ c.val
          case neg =>
            go_wp2_with fail
            refine wp_region_J (l := [_, _, _, _, _, _, _, _, _, _, _, _, _, _, _, _, _, _, _, _, _, _, _, _, _]) (QG (fun j v => match j with | 0 => v = .slice (some ⟨pb, po, none⟩) pn pc | 1 => v = .int .i64 i | 2 => v = .pointer (some ⟨pb, po + i * 2, none⟩) | 3 => v = .pointer (some ⟨pb, po + i * 2, none⟩) | 4 => v = .int .u64 p.1 | 5 => v = .pointer (some ⟨w.heap.size + 1, 1, none⟩) | 6 => v = .int .u64 c.key | 7 => v = .bool true | 8 => v = .bool true | 9 => v = .slice (some ⟨pb, po, none⟩) pn pc | 10 => v = .int .i64 i | 11 => v = .pointer (some ⟨pb, po + i * 2, none⟩) | 12 => v = .pointer (some ⟨pb, po + i * 2, none⟩) | 13 => v = .int .u64 p.1 | 14 => v = .pointer (some ⟨w.heap.size + 1, 2, none⟩) | 15 => v = .int .u64 c.val | 16 => v = .bool false | 17 => v = .bool false | 18 => v = .bool false | 24 => v = .bool false | _ => True) wr) (by kernel_rfl) (by kernel_rfl) (fun us => QG.start us) ⟨?_, ?_, ?_, ?_, ?_, ?_, ?_, ?_, ?_, ?_, ?_, ?_, ?_, ?_, ?_, ?_, ?_, ?_, ?_, ?_, ?_, ?_, ?_, ?_, ?_, trivial⟩ ?_
            · intro dn us w6 A hev hy hG hdn hdep K hK
              have e0 : A.eval (.tmp 7) = .slice (some ⟨pb, po, none⟩) pn pc := by rw [hev]; rfl
              rw [if_pos (by rfl)]; unfold Oper.wp execOp; generalize A.eval = ev at e0 ⊢; go_simp; exact hK _ _ (hG.first (by first | rfl | (simp; done) | (simp; omega) | (simp; assumption)))
            · intro dn us w6 A hev hy hG hdn hdep K hK
              have e0 : A.eval (.tmp 11) = .int .i64 i := by rw [hev]; rfl
              rw [if_pos (by rfl)]; unfold Oper.wp execOp; generalize A.eval = ev at e0 ⊢; go_simp; exact hK _ _ (hG.first (by first | rfl | (simp; done) | (simp; omega) | (simp; assumption)))
            · intro dn us w6 A hev hy hG hdn hdep K hK
              have e0 : A.eval (.tmp 50) = .slice (some ⟨pb, po, none⟩) pn pc := by rw [hev]; exact hG.pre 0 (dm 0 hdep rfl)
              have e1 : A.eval (.tmp 51) = .int .i64 i := by rw [hev]; exact hG.pre 1 (dm 1 hdep rfl)
              rw [if_pos (by rfl)]; unfold Oper.wp execOp; generalize A.eval = ev at e0 e1 ⊢; go_simp; exact hK _ _ (hG.first (by first | rfl | (simp; done) | (simp; omega) | (simp; assumption)))
            · intro dn us w6 A hev hy hG hdn hdep K hK
              have e0 : A.eval (.tmp 52) = .pointer (some ⟨pb, po + i * 2, none⟩) := by rw [hev]; exact hG.pre 2 (dm 2 hdep rfl)
              rw [if_pos (by rfl)]; unfold Oper.wp execOp; generalize A.eval = ev at e0 ⊢; go_simp; exact hK _ _ (hG.first (by first | rfl | (simp; done) | (simp; omega) | (simp; assumption)))
            · intro dn us w6 A hev hy hG hdn hdep K hK
              have e0 : A.eval (.tmp 53) = .pointer (some ⟨pb, po + i * 2, none⟩) := by rw [hev]; exact hG.pre 3 (dm 3 hdep rfl)
              have zp0 : w6.cell? ⟨pb, po + i * 2, none⟩ = some (.int .u64 p.1) := by rw [hG.below.cell (World.block_lt_of_cell? _ _ p0)]; exact p0
              rw [if_pos (by rfl)]; unfold Oper.wp execOp; generalize A.eval = ev at e0 ⊢; go_simp; exact hK _ _ (hG.first (by first | rfl | (simp; done) | (simp; omega) | (simp; assumption)))
            · intro dn us w6 A hev hy hG hdn hdep K hK
              have e0 : A.eval (.tmp 3) = .pointer (some ⟨w.heap.size + 1, 0, none⟩) := by rw [hev]; rfl
              rw [if_pos (by rfl)]; unfold Oper.wp execOp; generalize A.eval = ev at e0 ⊢; go_simp; exact hK _ _ (hG.first (by first | rfl | (simp; done) | (simp; omega) | (simp; assumption)))
            · intro dn us w6 A hev hy hG hdn hdep K hK
              have e0 : A.eval (.tmp 55) = .pointer (some ⟨w.heap.size + 1, 1, none⟩) := by rw [hev]; exact hG.pre 5 (dm 5 hdep rfl)
              have zk1 : w6.cell? ⟨w.heap.size + 1, 1, none⟩ = some (.int .u64 c.key) := by rw [hG.below.cell (World.block_lt_of_cell? _ _ k1)]; exact k1
              rw [if_pos (by rfl)]; unfold Oper.wp execOp; generalize A.eval = ev at e0 ⊢; go_simp; exact hK _ _ (hG.first (by first | rfl | (simp; done) | (simp; omega) | (simp; assumption)))
            · intro dn us w6 A hev hy hG hdn hdep K hK
              have e0 : A.eval (.tmp 54) = .int .u64 p.1 := by rw [hev]; exact hG.pre 4 (dm 4 hdep rfl)
              have e1 : A.eval (.tmp 56) = .int .u64 c.key := by rw [hev]; exact hG.pre 6 (dm 6 hdep rfl)
              rw [if_pos (by rfl)]; unfold Oper.wp execOp; generalize A.eval = ev at e0 e1 ⊢; go_simp; exact hK _ _ (hG.first (by first | rfl | (simp; done) | (simp; omega) | (simp; assumption)))
            · intro dn us w6 A hev hy hG hdn hdep K hK
              have e0 : A.eval (.tmp 57) = .bool true := by rw [hev]; exact hG.pre 7 (dm 7 hdep rfl)
              rw [if_pos (by rfl)]; unfold Oper.wp execOp; generalize A.eval = ev at e0 ⊢; go_simp; exact hK _ _ (hG.first (by first | rfl | (simp; done) | (simp; omega) | (simp; assumption)))
            · intro dn us w6 A hev hy hG hdn hdep K hK
              have e0 : A.eval (.tmp 7) = .slice (some ⟨pb, po, none⟩) pn pc := by rw [hev]; rfl
              have hg : us 8 = .bool true := hG.pre 8 (dm 8 hdep rfl)
              rw [if_pos (by rw [hy]; exact yb hg)]; unfold Oper.wp execOp; generalize A.eval = ev at e0 ⊢; go_simp; exact hK _ _ (hG.first (by first | rfl | (simp; done) | (simp; omega) | (simp; assumption)))
            · intro dn us w6 A hev hy hG hdn hdep K hK
              have e0 : A.eval (.tmp 11) = .int .i64 i := by rw [hev]; rfl
              have hg : us 8 = .bool true := hG.pre 8 (dm 8 hdep rfl)
              rw [if_pos (by rw [hy]; exact yb hg)]; unfold Oper.wp execOp; generalize A.eval = ev at e0 ⊢; go_simp; exact hK _ _ (hG.first (by first | rfl | (simp; done) | (simp; omega) | (simp; assumption)))
            · intro dn us w6 A hev hy hG hdn hdep K hK
              have e0 : A.eval (.tmp 59) = .slice (some ⟨pb, po, none⟩) pn pc := by rw [hev]; exact hG.pre 9 (dm 9 hdep rfl)
              have e1 : A.eval (.tmp 60) = .int .i64 i := by rw [hev]; exact hG.pre 10 (dm 10 hdep rfl)
              have hg : us 8 = .bool true := hG.pre 8 (dm 8 hdep rfl)
              rw [if_pos (by rw [hy]; exact yb hg)]; unfold Oper.wp execOp; generalize A.eval = ev at e0 e1 ⊢; go_simp; exact hK _ _ (hG.first (by first | rfl | (simp; done) | (simp; omega) | (simp; assumption)))
            · intro dn us w6 A hev hy hG hdn hdep K hK
              have e0 : A.eval (.tmp 61) = .pointer (some ⟨pb, po + i * 2, none⟩) := by rw [hev]; exact hG.pre 11 (dm 11 hdep rfl)
              have hg : us 8 = .bool true := hG.pre 8 (dm 8 hdep rfl)
              rw [if_pos (by rw [hy]; exact yb hg)]; unfold Oper.wp execOp; generalize A.eval = ev at e0 ⊢; go_simp; exact hK _ _ (hG.first (by first | rfl | (simp; done) | (simp; omega) | (simp; assumption)))
            · intro dn us w6 A hev hy hG hdn hdep K hK
              have e0 : A.eval (.tmp 62) = .pointer (some ⟨pb, po + i * 2, none⟩) := by rw [hev]; exact hG.pre 12 (dm 12 hdep rfl)
              have zp0 : w6.cell? ⟨pb, po + i * 2, none⟩ = some (.int .u64 p.1) := by rw [hG.below.cell (World.block_lt_of_cell? _ _ p0)]; exact p0
              have hg : us 8 = .bool true := hG.pre 8 (dm 8 hdep rfl)
              rw [if_pos (by rw [hy]; exact yb hg)]; unfold Oper.wp execOp; generalize A.eval = ev at e0 ⊢; go_simp; exact hK _ _ (hG.first (by first | rfl | (simp; done) | (simp; omega) | (simp; assumption)))
            · intro dn us w6 A hev hy hG hdn hdep K hK
              have e0 : A.eval (.tmp 3) = .pointer (some ⟨w.heap.size + 1, 0, none⟩) := by rw [hev]; rfl
              have hg : us 8 = .bool true := hG.pre 8 (dm 8 hdep rfl)
              rw [if_pos (by rw [hy]; exact yb hg)]; unfold Oper.wp execOp; generalize A.eval = ev at e0 ⊢; go_simp; exact hK _ _ (hG.first (by first | rfl | (simp; done) | (simp; omega) | (simp; assumption)))
            · intro dn us w6 A hev hy hG hdn hdep K hK
              have e0 : A.eval (.tmp 64) = .pointer (some ⟨w.heap.size + 1, 2, none⟩) := by rw [hev]; exact hG.pre 14 (dm 14 hdep rfl)
              have zk2 : w6.cell? ⟨w.heap.size + 1, 2, none⟩ = some (.int .u64 c.val) := by rw [hG.below.cell (World.block_lt_of_cell? _ _ k2)]; exact k2
              have hg : us 8 = .bool true := hG.pre 8 (dm 8 hdep rfl)
              rw [if_pos (by rw [hy]; exact yb hg)]; unfold Oper.wp execOp; generalize A.eval = ev at e0 ⊢; go_simp; exact hK _ _ (hG.first (by first | rfl | (simp; done) | (simp; omega) | (simp; assumption)))
            · intro dn us w6 A hev hy hG hdn hdep K hK
              have e0 : A.eval (.tmp 63) = .int .u64 p.1 := by rw [hev]; exact hG.pre 13 (dm 13 hdep rfl)
              have e1 : A.eval (.tmp 65) = .int .u64 c.val := by rw [hev]; exact hG.pre 15 (dm 15 hdep rfl)
              have hg : us 8 = .bool true := hG.pre 8 (dm 8 hdep rfl)
              rw [if_pos (by rw [hy]; exact yb hg)]; unfold Oper.wp execOp; generalize A.eval = ev at e0 e1 ⊢; go_simp; exact hK _ _ (hG.first (by first | rfl | (simp; done) | (simp; omega) | (simp; assumption)))
            · intro dn us w6 A hev hy hG hdn hdep K hK
              have e0 : A.eval (.tmp 58) = .bool true := by rw [hev]; exact hG.pre 8 (dm 8 hdep rfl)
              have e1 : A.eval (.tmp 66) = .bool false := by rw [hev]; exact hG.pre 16 (dm 16 hdep rfl)
              have e2 : A.eval (.const (.bool false)) = .bool false := by rw [hev]; rfl
              rw [if_pos (by rfl)]; unfold Oper.wp execOp; generalize A.eval = ev at e0 e1 e2 ⊢; go_simp; exact hK _ _ (hG.first (by first | rfl | (simp; done) | (simp; omega) | (simp; assumption)))
            · intro dn us w6 A hev hy hG hdn hdep K hK
              have e0 : A.eval (.tmp 67) = .bool false := by rw [hev]; exact hG.pre 17 (dm 17 hdep rfl)
              rw [if_pos (by rfl)]; unfold Oper.wp execOp; generalize A.eval = ev at e0 ⊢; go_simp; exact hK _ _ (hG.first (by first | rfl | (simp; done) | (simp; omega) | (simp; assumption)))
            · intro dn us w6 A hev hy hG hdn hdep K hK
              have hg : us 18 = .bool false := hG.pre 18 (dm 18 hdep rfl)
              rw [if_neg (by rw [hy]; exact yn true hg rfl)]
              exact hK _ _ (hG.first trivial)
            · intro dn us w6 A hev hy hG hdn hdep K hK
              have hg : us 18 = .bool false := hG.pre 18 (dm 18 hdep rfl)
              rw [if_neg (by rw [hy]; exact yn true hg rfl)]
              exact hK _ _ (hG.first trivial)
            · intro dn us w6 A hev hy hG hdn hdep K hK
              have hg : us 18 = .bool false := hG.pre 18 (dm 18 hdep rfl)
              rw [if_neg (by rw [hy]; exact yn true hg rfl)]
              exact hK _ _ (hG.first trivial)
            · intro dn us w6 A hev hy hG hdn hdep K hK
              have hg : us 18 = .bool false := hG.pre 18 (dm 18 hdep rfl)
              rw [if_neg (by rw [hy]; exact yn true hg rfl)]
              exact hK _ _ (hG.first trivial)
            · intro dn us w6 A hev hy hG hdn hdep K hK
              have hg : us 18 = .bool false := hG.pre 18 (dm 18 hdep rfl)
              rw [if_neg (by rw [hy]; exact yn true hg rfl)]
              exact hK _ _ (hG.first trivial)
            · intro dn us w6 A hev hy hG hdn hdep K hK
              have e0 : A.eval (.tmp 68) = .bool false := by rw [hev]; exact hG.pre 18 (dm 18 hdep rfl)
              have e1 : A.eval (.const (.bool false)) = .bool false := by rw [hev]; rfl
              rw [if_pos (by rfl)]; unfold Oper.wp execOp; generalize A.eval = ev at e0 e1 ⊢; go_simp; exact hK _ _ (hG.first (by first | rfl | (simp; done) | (simp; omega) | (simp; assumption)))
            intro dn us wA hG hall
            have u24 : us 24 = .bool false := hG.pre 24 (hall 24 (by decide))
            have DA := hG.below
            simp only [fillA, fillT, Nat.reduceAdd, List.setIfInBounds_toArray, List.set_cons_zero, List.set_cons_succ, u24]
            clear hG hall u24
            go_wp2_with fail
            go_roundg (pn - (i + 1))
            case measure => omega
            case rel => exact ⟨i + 1, rfl, by omega, HKP.out wA DA (by omega), hb.trans (DA.mono hb.size)⟩
          by_cases q3 : (wn : Int) < c.limit
          case neg =>
            go_wp2_with fail
            refine wp_region_J (l := [_, _, _, _, _, _, _, _, _, _, _, _, _, _, _, _, _, _, _, _, _, _, _, _, _]) (QG (fun j v => match j with | 0 => v = .slice (some ⟨pb, po, none⟩) pn pc | 1 => v = .int .i64 i | 2 => v = .pointer (some ⟨pb, po + i * 2, none⟩) | 3 => v = .pointer (some ⟨pb, po + i * 2, none⟩) | 4 => v = .int .u64 p.1 | 5 => v = .pointer (some ⟨w.heap.size + 1, 1, none⟩) | 6 => v = .int .u64 c.key | 7 => v = .bool true | 8 => v = .bool true | 9 => v = .slice (some ⟨pb, po, none⟩) pn pc | 10 => v = .int .i64 i | 11 => v = .pointer (some ⟨pb, po + i * 2, none⟩) | 12 => v = .pointer (some ⟨pb, po + i * 2, none⟩) | 13 => v = .int .u64 p.1 | 14 => v = .pointer (some ⟨w.heap.size + 1, 2, none⟩) | 15 => v = .int .u64 c.val | 16 => v = .bool true | 17 => v = .bool true | 18 => v = .bool true | 19 => v = .slice wa wn wc | 20 => v = .int .i64 wn | 21 => v = .pointer (some ⟨w.heap.size + 1, 3, none⟩) | 22 => v = .int .i64 c.limit | 23 => v = .bool false | 24 => v = .bool false | _ => True) wr) (by kernel_rfl) (by kernel_rfl) (fun us => QG.start us) ⟨?_, ?_, ?_, ?_, ?_, ?_, ?_, ?_, ?_, ?_, ?_, ?_, ?_, ?_, ?_, ?_, ?_, ?_, ?_, ?_, ?_, ?_, ?_, ?_, ?_, trivial⟩ ?_
            · intro dn us w6 A hev hy hG hdn hdep K hK
              have e0 : A.eval (.tmp 7) = .slice (some ⟨pb, po, none⟩) pn pc := by rw [hev]; rfl
              rw [if_pos (by rfl)]; unfold Oper.wp execOp; generalize A.eval = ev at e0 ⊢; go_simp; exact hK _ _ (hG.first (by first | rfl | (simp; done) | (simp; omega) | (simp; assumption)))
            · intro dn us w6 A hev hy hG hdn hdep K hK
              have e0 : A.eval (.tmp 11) = .int .i64 i := by rw [hev]; rfl
              rw [if_pos (by rfl)]; unfold Oper.wp execOp; generalize A.eval = ev at e0 ⊢; go_simp; exact hK _ _ (hG.first (by first | rfl | (simp; done) | (simp; omega) | (simp; assumption)))
            · intro dn us w6 A hev hy hG hdn hdep K hK
              have e0 : A.eval (.tmp 50) = .slice (some ⟨pb, po, none⟩) pn pc := by rw [hev]; exact hG.pre 0 (dm 0 hdep rfl)
              have e1 : A.eval (.tmp 51) = .int .i64 i := by rw [hev]; exact hG.pre 1 (dm 1 hdep rfl)
              rw [if_pos (by rfl)]; unfold Oper.wp execOp; generalize A.eval = ev at e0 e1 ⊢; go_simp; exact hK _ _ (hG.first (by first | rfl | (simp; done) | (simp; omega) | (simp; assumption)))
            · intro dn us w6 A hev hy hG hdn hdep K hK
              have e0 : A.eval (.tmp 52) = .pointer (some ⟨pb, po + i * 2, none⟩) := by rw [hev]; exact hG.pre 2 (dm 2 hdep rfl)
              rw [if_pos (by rfl)]; unfold Oper.wp execOp; generalize A.eval = ev at e0 ⊢; go_simp; exact hK _ _ (hG.first (by first | rfl | (simp; done) | (simp; omega) | (simp; assumption)))
            · intro dn us w6 A hev hy hG hdn hdep K hK
              have e0 : A.eval (.tmp 53) = .pointer (some ⟨pb, po + i * 2, none⟩) := by rw [hev]; exact hG.pre 3 (dm 3 hdep rfl)
              have zp0 : w6.cell? ⟨pb, po + i * 2, none⟩ = some (.int .u64 p.1) := by rw [hG.below.cell (World.block_lt_of_cell? _ _ p0)]; exact p0
              rw [if_pos (by rfl)]; unfold Oper.wp execOp; generalize A.eval = ev at e0 ⊢; go_simp; exact hK _ _ (hG.first (by first | rfl | (simp; done) | (simp; omega) | (simp; assumption)))
            · intro dn us w6 A hev hy hG hdn hdep K hK
              have e0 : A.eval (.tmp 3) = .pointer (some ⟨w.heap.size + 1, 0, none⟩) := by rw [hev]; rfl
              rw [if_pos (by rfl)]; unfold Oper.wp execOp; generalize A.eval = ev at e0 ⊢; go_simp; exact hK _ _ (hG.first (by first | rfl | (simp; done) | (simp; omega) | (simp; assumption)))
            · intro dn us w6 A hev hy hG hdn hdep K hK
              have e0 : A.eval (.tmp 55) = .pointer (some ⟨w.heap.size + 1, 1, none⟩) := by rw [hev]; exact hG.pre 5 (dm 5 hdep rfl)
              have zk1 : w6.cell? ⟨w.heap.size + 1, 1, none⟩ = some (.int .u64 c.key) := by rw [hG.below.cell (World.block_lt_of_cell? _ _ k1)]; exact k1
              rw [if_pos (by rfl)]; unfold Oper.wp execOp; generalize A.eval = ev at e0 ⊢; go_simp; exact hK _ _ (hG.first (by first | rfl | (simp; done) | (simp; omega) | (simp; assumption)))
            · intro dn us w6 A hev hy hG hdn hdep K hK
              have e0 : A.eval (.tmp 54) = .int .u64 p.1 := by rw [hev]; exact hG.pre 4 (dm 4 hdep rfl)
              have e1 : A.eval (.tmp 56) = .int .u64 c.key := by rw [hev]; exact hG.pre 6 (dm 6 hdep rfl)
              rw [if_pos (by rfl)]; unfold Oper.wp execOp; generalize A.eval = ev at e0 e1 ⊢; go_simp; exact hK _ _ (hG.first (by first | rfl | (simp; done) | (simp; omega) | (simp; assumption)))
            · intro dn us w6 A hev hy hG hdn hdep K hK
              have e0 : A.eval (.tmp 57) = .bool true := by rw [hev]; exact hG.pre 7 (dm 7 hdep rfl)
              rw [if_pos (by rfl)]; unfold Oper.wp execOp; generalize A.eval = ev at e0 ⊢; go_simp; exact hK _ _ (hG.first (by first | rfl | (simp; done) | (simp; omega) | (simp; assumption)))
            · intro dn us w6 A hev hy hG hdn hdep K hK
              have e0 : A.eval (.tmp 7) = .slice (some ⟨pb, po, none⟩) pn pc := by rw [hev]; rfl
              have hg : us 8 = .bool true := hG.pre 8 (dm 8 hdep rfl)
              rw [if_pos (by rw [hy]; exact yb hg)]; unfold Oper.wp execOp; generalize A.eval = ev at e0 ⊢; go_simp; exact hK _ _ (hG.first (by first | rfl | (simp; done) | (simp; omega) | (simp; assumption)))
            · intro dn us w6 A hev hy hG hdn hdep K hK
              have e0 : A.eval (.tmp 11) = .int .i64 i := by rw [hev]; rfl
              have hg : us 8 = .bool true := hG.pre 8 (dm 8 hdep rfl)
              rw [if_pos (by rw [hy]; exact yb hg)]; unfold Oper.wp execOp; generalize A.eval = ev at e0 ⊢; go_simp; exact hK _ _ (hG.first (by first | rfl | (simp; done) | (simp; omega) | (simp; assumption)))
            · intro dn us w6 A hev hy hG hdn hdep K hK
              have e0 : A.eval (.tmp 59) = .slice (some ⟨pb, po, none⟩) pn pc := by rw [hev]; exact hG.pre 9 (dm 9 hdep rfl)
              have e1 : A.eval (.tmp 60) = .int .i64 i := by rw [hev]; exact hG.pre 10 (dm 10 hdep rfl)
              have hg : us 8 = .bool true := hG.pre 8 (dm 8 hdep rfl)
              rw [if_pos (by rw [hy]; exact yb hg)]; unfold Oper.wp execOp; generalize A.eval = ev at e0 e1 ⊢; go_simp; exact hK _ _ (hG.first (by first | rfl | (simp; done) | (simp; omega) | (simp; assumption)))
            · intro dn us w6 A hev hy hG hdn hdep K hK
              have e0 : A.eval (.tmp 61) = .pointer (some ⟨pb, po + i * 2, none⟩) := by rw [hev]; exact hG.pre 11 (dm 11 hdep rfl)
              have hg : us 8 = .bool true := hG.pre 8 (dm 8 hdep rfl)
              rw [if_pos (by rw [hy]; exact yb hg)]; unfold Oper.wp execOp; generalize A.eval = ev at e0 ⊢; go_simp; exact hK _ _ (hG.first (by first | rfl | (simp; done) | (simp; omega) | (simp; assumption)))
            · intro dn us w6 A hev hy hG hdn hdep K hK
              have e0 : A.eval (.tmp 62) = .pointer (some ⟨pb, po + i * 2, none⟩) := by rw [hev]; exact hG.pre 12 (dm 12 hdep rfl)
              have zp0 : w6.cell? ⟨pb, po + i * 2, none⟩ = some (.int .u64 p.1) := by rw [hG.below.cell (World.block_lt_of_cell? _ _ p0)]; exact p0
              have hg : us 8 = .bool true := hG.pre 8 (dm 8 hdep rfl)
              rw [if_pos (by rw [hy]; exact yb hg)]; unfold Oper.wp execOp; generalize A.eval = ev at e0 ⊢; go_simp; exact hK _ _ (hG.first (by first | rfl | (simp; done) | (simp; omega) | (simp; assumption)))
            · intro dn us w6 A hev hy hG hdn hdep K hK
              have e0 : A.eval (.tmp 3) = .pointer (some ⟨w.heap.size + 1, 0, none⟩) := by rw [hev]; rfl
              have hg : us 8 = .bool true := hG.pre 8 (dm 8 hdep rfl)
              rw [if_pos (by rw [hy]; exact yb hg)]; unfold Oper.wp execOp; generalize A.eval = ev at e0 ⊢; go_simp; exact hK _ _ (hG.first (by first | rfl | (simp; done) | (simp; omega) | (simp; assumption)))
            · intro dn us w6 A hev hy hG hdn hdep K hK
              have e0 : A.eval (.tmp 64) = .pointer (some ⟨w.heap.size + 1, 2, none⟩) := by rw [hev]; exact hG.pre 14 (dm 14 hdep rfl)
              have zk2 : w6.cell? ⟨w.heap.size + 1, 2, none⟩ = some (.int .u64 c.val) := by rw [hG.below.cell (World.block_lt_of_cell? _ _ k2)]; exact k2
              have hg : us 8 = .bool true := hG.pre 8 (dm 8 hdep rfl)
              rw [if_pos (by rw [hy]; exact yb hg)]; unfold Oper.wp execOp; generalize A.eval = ev at e0 ⊢; go_simp; exact hK _ _ (hG.first (by first | rfl | (simp; done) | (simp; omega) | (simp; assumption)))
            · intro dn us w6 A hev hy hG hdn hdep K hK
              have e0 : A.eval (.tmp 63) = .int .u64 p.1 := by rw [hev]; exact hG.pre 13 (dm 13 hdep rfl)
              have e1 : A.eval (.tmp 65) = .int .u64 c.val := by rw [hev]; exact hG.pre 15 (dm 15 hdep rfl)
              have hg : us 8 = .bool true := hG.pre 8 (dm 8 hdep rfl)
              rw [if_pos (by rw [hy]; exact yb hg)]; unfold Oper.wp execOp; generalize A.eval = ev at e0 e1 ⊢; go_simp; exact hK _ _ (hG.first (by first | rfl | (simp; done) | (simp; omega) | (simp; assumption)))
            · intro dn us w6 A hev hy hG hdn hdep K hK
              have e0 : A.eval (.tmp 58) = .bool true := by rw [hev]; exact hG.pre 8 (dm 8 hdep rfl)
              have e1 : A.eval (.tmp 66) = .bool true := by rw [hev]; exact hG.pre 16 (dm 16 hdep rfl)
              have e2 : A.eval (.const (.bool false)) = .bool false := by rw [hev]; rfl
              rw [if_pos (by rfl)]; unfold Oper.wp execOp; generalize A.eval = ev at e0 e1 e2 ⊢; go_simp; exact hK _ _ (hG.first (by first | rfl | (simp; done) | (simp; omega) | (simp; assumption)))
            · intro dn us w6 A hev hy hG hdn hdep K hK
              have e0 : A.eval (.tmp 67) = .bool true := by rw [hev]; exact hG.pre 17 (dm 17 hdep rfl)
              rw [if_pos (by rfl)]; unfold Oper.wp execOp; generalize A.eval = ev at e0 ⊢; go_simp; exact hK _ _ (hG.first (by first | rfl | (simp; done) | (simp; omega) | (simp; assumption)))
            · intro dn us w6 A hev hy hG hdn hdep K hK
              have e0 : A.eval (.tmp 10) = .slice wa wn wc := by rw [hev]; rfl
              have hg : us 18 = .bool true := hG.pre 18 (dm 18 hdep rfl)
              rw [if_pos (by rw [hy]; exact yb hg)]; unfold Oper.wp execOp; generalize A.eval = ev at e0 ⊢; go_simp; exact hK _ _ (hG.first (by first | rfl | (simp; done) | (simp; omega) | (simp; assumption)))
            · intro dn us w6 A hev hy hG hdn hdep K hK
              have e0 : A.eval (.tmp 69) = .slice wa wn wc := by rw [hev]; exact hG.pre 19 (dm 19 hdep rfl)
              have hg : us 18 = .bool true := hG.pre 18 (dm 18 hdep rfl)
              rw [if_pos (by rw [hy]; exact yb hg)]; unfold Oper.wp execOp; generalize A.eval = ev at e0 ⊢; go_simp; exact hK _ _ (hG.first (by first | rfl | (simp; done) | (simp; omega) | (simp; assumption)))
            · intro dn us w6 A hev hy hG hdn hdep K hK
              have e0 : A.eval (.tmp 3) = .pointer (some ⟨w.heap.size + 1, 0, none⟩) := by rw [hev]; rfl
              have hg : us 18 = .bool true := hG.pre 18 (dm 18 hdep rfl)
              rw [if_pos (by rw [hy]; exact yb hg)]; unfold Oper.wp execOp; generalize A.eval = ev at e0 ⊢; go_simp; exact hK _ _ (hG.first (by first | rfl | (simp; done) | (simp; omega) | (simp; assumption)))
            · intro dn us w6 A hev hy hG hdn hdep K hK
              have e0 : A.eval (.tmp 71) = .pointer (some ⟨w.heap.size + 1, 3, none⟩) := by rw [hev]; exact hG.pre 21 (dm 21 hdep rfl)
              have zk3 : w6.cell? ⟨w.heap.size + 1, 3, none⟩ = some (.int .i64 c.limit) := by rw [hG.below.cell (World.block_lt_of_cell? _ _ k3)]; exact k3
              have hg : us 18 = .bool true := hG.pre 18 (dm 18 hdep rfl)
              rw [if_pos (by rw [hy]; exact yb hg)]; unfold Oper.wp execOp; generalize A.eval = ev at e0 ⊢; go_simp; exact hK _ _ (hG.first (by first | rfl | (simp; done) | (simp; omega) | (simp; assumption)))
            · intro dn us w6 A hev hy hG hdn hdep K hK
              have e0 : A.eval (.tmp 70) = .int .i64 wn := by rw [hev]; exact hG.pre 20 (dm 20 hdep rfl)
              have e1 : A.eval (.tmp 72) = .int .i64 c.limit := by rw [hev]; exact hG.pre 22 (dm 22 hdep rfl)
              have hg : us 18 = .bool true := hG.pre 18 (dm 18 hdep rfl)
              rw [if_pos (by rw [hy]; exact yb hg)]; unfold Oper.wp execOp; generalize A.eval = ev at e0 e1 ⊢; go_simp; exact hK _ _ (hG.first (by first | rfl | (simp; done) | (simp; omega) | (simp; assumption)))
            · intro dn us w6 A hev hy hG hdn hdep K hK
              have e0 : A.eval (.tmp 68) = .bool true := by rw [hev]; exact hG.pre 18 (dm 18 hdep rfl)
              have e1 : A.eval (.tmp 73) = .bool false := by rw [hev]; exact hG.pre 23 (dm 23 hdep rfl)
              have e2 : A.eval (.const (.bool false)) = .bool false := by rw [hev]; rfl
              rw [if_pos (by rfl)]; unfold Oper.wp execOp; generalize A.eval = ev at e0 e1 e2 ⊢; go_simp; exact hK _ _ (hG.first (by first | rfl | (simp; done) | (simp; omega) | (simp; assumption)))
            intro dn us wA hG hall
            have u24 : us 24 = .bool false := hG.pre 24 (hall 24 (by decide))
            have DA := hG.below
            simp only [fillA, fillT, Nat.reduceAdd, List.setIfInBounds_toArray, List.set_cons_zero, List.set_cons_succ, u24]
            clear hG hall u24
            go_wp2_with fail
            go_roundg (pn - (i + 1))
            case measure => omega
            case rel => exact ⟨i + 1, rfl, by omega, HKP.out wA DA (by omega), hb.trans (DA.mono hb.size)⟩
          go_wp2_with fail
          refine wp_region_J (l := [_, _, _, _, _, _, _, _, _, _, _, _, _, _, _, _, _, _, _, _, _, _, _, _, _]) (QG (fun j v => match j with | 0 => v = .slice (some ⟨pb, po, none⟩) pn pc | 1 => v = .int .i64 i | 2 => v = .pointer (some ⟨pb, po + i * 2, none⟩) | 3 => v = .pointer (some ⟨pb, po + i * 2, none⟩) | 4 => v = .int .u64 p.1 | 5 => v = .pointer (some ⟨w.heap.size + 1, 1, none⟩) | 6 => v = .int .u64 c.key | 7 => v = .bool true | 8 => v = .bool true | 9 => v = .slice (some ⟨pb, po, none⟩) pn pc | 10 => v = .int .i64 i | 11 => v = .pointer (some ⟨pb, po + i * 2, none⟩) | 12 => v = .pointer (some ⟨pb, po + i * 2, none⟩) | 13 => v = .int .u64 p.1 | 14 => v = .pointer (some ⟨w.heap.size + 1, 2, none⟩) | 15 => v = .int .u64 c.val | 16 => v = .bool true | 17 => v = .bool true | 18 => v = .bool true | 19 => v = .slice wa wn wc | 20 => v = .int .i64 wn | 21 => v = .pointer (some ⟨w.heap.size + 1, 3, none⟩) | 22 => v = .int .i64 c.limit | 23 => v = .bool true | 24 => v = .bool true | _ => True) wr) (by kernel_rfl) (by kernel_rfl) (fun us => QG.start us) ⟨?_, ?_, ?_, ?_, ?_, ?_, ?_, ?_, ?_, ?_, ?_, ?_, ?_, ?_, ?_, ?_, ?_, ?_, ?_, ?_, ?_, ?_, ?_, ?_, ?_, trivial⟩ ?_
          · intro dn us w6 A hev hy hG hdn hdep K hK
            have e0 : A.eval (.tmp 7) = .slice (some ⟨pb, po, none⟩) pn pc := by rw [hev]; rfl
            rw [if_pos (by rfl)]; unfold Oper.wp execOp; generalize A.eval = ev at e0 ⊢; go_simp; exact hK _ _ (hG.first (by first | rfl | (simp; done) | (simp; omega) | (simp; assumption)))
          · intro dn us w6 A hev hy hG hdn hdep K hK
            have e0 : A.eval (.tmp 11) = .int .i64 i := by rw [hev]; rfl
            rw [if_pos (by rfl)]; unfold Oper.wp execOp; generalize A.eval = ev at e0 ⊢; go_simp; exact hK _ _ (hG.first (by first | rfl | (simp; done) | (simp; omega) | (simp; assumption)))
          · intro dn us w6 A hev hy hG hdn hdep K hK
            have e0 : A.eval (.tmp 50) = .slice (some ⟨pb, po, none⟩) pn pc := by rw [hev]; exact hG.pre 0 (dm 0 hdep rfl)
            have e1 : A.eval (.tmp 51) = .int .i64 i := by rw [hev]; exact hG.pre 1 (dm 1 hdep rfl)
            rw [if_pos (by rfl)]; unfold Oper.wp execOp; generalize A.eval = ev at e0 e1 ⊢; go_simp; exact hK _ _ (hG.first (by first | rfl | (simp; done) | (simp; omega) | (simp; assumption)))
          · intro dn us w6 A hev hy hG hdn hdep K hK
            have e0 : A.eval (.tmp 52) = .pointer (some ⟨pb, po + i * 2, none⟩) := by rw [hev]; exact hG.pre 2 (dm 2 hdep rfl)
            rw [if_pos (by rfl)]; unfold Oper.wp execOp; generalize A.eval = ev at e0 ⊢; go_simp; exact hK _ _ (hG.first (by first | rfl | (simp; done) | (simp; omega) | (simp; assumption)))
          · intro dn us w6 A hev hy hG hdn hdep K hK
            have e0 : A.eval (.tmp 53) = .pointer (some ⟨pb, po + i * 2, none⟩) := by rw [hev]; exact hG.pre 3 (dm 3 hdep rfl)
            have zp0 : w6.cell? ⟨pb, po + i * 2, none⟩ = some (.int .u64 p.1) := by rw [hG.below.cell (World.block_lt_of_cell? _ _ p0)]; exact p0
            rw [if_pos (by rfl)]; unfold Oper.wp execOp; generalize A.eval = ev at e0 ⊢; go_simp; exact hK _ _ (hG.first (by first | rfl | (simp; done) | (simp; omega) | (simp; assumption)))
          · intro dn us w6 A hev hy hG hdn hdep K hK
            have e0 : A.eval (.tmp 3) = .pointer (some ⟨w.heap.size + 1, 0, none⟩) := by rw [hev]; rfl
            rw [if_pos (by rfl)]; unfold Oper.wp execOp; generalize A.eval = ev at e0 ⊢; go_simp; exact hK _ _ (hG.first (by first | rfl | (simp; done) | (simp; omega) | (simp; assumption)))
          · intro dn us w6 A hev hy hG hdn hdep K hK
            have e0 : A.eval (.tmp 55) = .pointer (some ⟨w.heap.size + 1, 1, none⟩) := by rw [hev]; exact hG.pre 5 (dm 5 hdep rfl)
            have zk1 : w6.cell? ⟨w.heap.size + 1, 1, none⟩ = some (.int .u64 c.key) := by rw [hG.below.cell (World.block_lt_of_cell? _ _ k1)]; exact k1
            rw [if_pos (by rfl)]; unfold Oper.wp execOp; generalize A.eval = ev at e0 ⊢; go_simp; exact hK _ _ (hG.first (by first | rfl | (simp; done) | (simp; omega) | (simp; assumption)))
          · intro dn us w6 A hev hy hG hdn hdep K hK
            have e0 : A.eval (.tmp 54) = .int .u64 p.1 := by rw [hev]; exact hG.pre 4 (dm 4 hdep rfl)
            have e1 : A.eval (.tmp 56) = .int .u64 c.key := by rw [hev]; exact hG.pre 6 (dm 6 hdep rfl)
            rw [if_pos (by rfl)]; unfold Oper.wp execOp; generalize A.eval = ev at e0 e1 ⊢; go_simp; exact hK _ _ (hG.first (by first | rfl | (simp; done) | (simp; omega) | (simp; assumption)))
          · intro dn us w6 A hev hy hG hdn hdep K hK
            have e0 : A.eval (.tmp 57) = .bool true := by rw [hev]; exact hG.pre 7 (dm 7 hdep rfl)
            rw [if_pos (by rfl)]; unfold Oper.wp execOp; generalize A.eval = ev at e0 ⊢; go_simp; exact hK _ _ (hG.first (by first | rfl | (simp; done) | (simp; omega) | (simp; assumption)))
          · intro dn us w6 A hev hy hG hdn hdep K hK
            have e0 : A.eval (.tmp 7) = .slice (some ⟨pb, po, none⟩) pn pc := by rw [hev]; rfl
            have hg : us 8 = .bool true := hG.pre 8 (dm 8 hdep rfl)
            rw [if_pos (by rw [hy]; exact yb hg)]; unfold Oper.wp execOp; generalize A.eval = ev at e0 ⊢; go_simp; exact hK _ _ (hG.first (by first | rfl | (simp; done) | (simp; omega) | (simp; assumption)))
          · intro dn us w6 A hev hy hG hdn hdep K hK
            have e0 : A.eval (.tmp 11) = .int .i64 i := by rw [hev]; rfl
            have hg : us 8 = .bool true := hG.pre 8 (dm 8 hdep rfl)
            rw [if_pos (by rw [hy]; exact yb hg)]; unfold Oper.wp execOp; generalize A.eval = ev at e0 ⊢; go_simp; exact hK _ _ (hG.first (by first | rfl | (simp; done) | (simp; omega) | (simp; assumption)))
          · intro dn us w6 A hev hy hG hdn hdep K hK
            have e0 : A.eval (.tmp 59) = .slice (some ⟨pb, po, none⟩) pn pc := by rw [hev]; exact hG.pre 9 (dm 9 hdep rfl)
            have e1 : A.eval (.tmp 60) = .int .i64 i := by rw [hev]; exact hG.pre 10 (dm 10 hdep rfl)
            have hg : us 8 = .bool true := hG.pre 8 (dm 8 hdep rfl)
            rw [if_pos (by rw [hy]; exact yb hg)]; unfold Oper.wp execOp; generalize A.eval = ev at e0 e1 ⊢; go_simp; exact hK _ _ (hG.first (by first | rfl | (simp; done) | (simp; omega) | (simp; assumption)))
          · intro dn us w6 A hev hy hG hdn hdep K hK
            have e0 : A.eval (.tmp 61) = .pointer (some ⟨pb, po + i * 2, none⟩) := by rw [hev]; exact hG.pre 11 (dm 11 hdep rfl)
            have hg : us 8 = .bool true := hG.pre 8 (dm 8 hdep rfl)
            rw [if_pos (by rw [hy]; exact yb hg)]; unfold Oper.wp execOp; generalize A.eval = ev at e0 ⊢; go_simp; exact hK _ _ (hG.first (by first | rfl | (simp; done) | (simp; omega) | (simp; assumption)))
          · intro dn us w6 A hev hy hG hdn hdep K hK
            have e0 : A.eval (.tmp 62) = .pointer (some ⟨pb, po + i * 2, none⟩) := by rw [hev]; exact hG.pre 12 (dm 12 hdep rfl)
            have zp0 : w6.cell? ⟨pb, po + i * 2, none⟩ = some (.int .u64 p.1) := by rw [hG.below.cell (World.block_lt_of_cell? _ _ p0)]; exact p0
            have hg : us 8 = .bool true := hG.pre 8 (dm 8 hdep rfl)
            rw [if_pos (by rw [hy]; exact yb hg)]; unfold Oper.wp execOp; generalize A.eval = ev at e0 ⊢; go_simp; exact hK _ _ (hG.first (by first | rfl | (simp; done) | (simp; omega) | (simp; assumption)))
          · intro dn us w6 A hev hy hG hdn hdep K hK
            have e0 : A.eval (.tmp 3) = .pointer (some ⟨w.heap.size + 1, 0, none⟩) := by rw [hev]; rfl
            have hg : us 8 = .bool true := hG.pre 8 (dm 8 hdep rfl)
            rw [if_pos (by rw [hy]; exact yb hg)]; unfold Oper.wp execOp; generalize A.eval = ev at e0 ⊢; go_simp; exact hK _ _ (hG.first (by first | rfl | (simp; done) | (simp; omega) | (simp; assumption)))
          · intro dn us w6 A hev hy hG hdn hdep K hK
            have e0 : A.eval (.tmp 64) = .pointer (some ⟨w.heap.size + 1, 2, none⟩) := by rw [hev]; exact hG.pre 14 (dm 14 hdep rfl)
            have zk2 : w6.cell? ⟨w.heap.size + 1, 2, none⟩ = some (.int .u64 c.val) := by rw [hG.below.cell (World.block_lt_of_cell? _ _ k2)]; exact k2
            have hg : us 8 = .bool true := hG.pre 8 (dm 8 hdep rfl)
            rw [if_pos (by rw [hy]; exact yb hg)]; unfold Oper.wp execOp; generalize A.eval = ev at e0 ⊢; go_simp; exact hK _ _ (hG.first (by first | rfl | (simp; done) | (simp; omega) | (simp; assumption)))
          · intro dn us w6 A hev hy hG hdn hdep K hK
            have e0 : A.eval (.tmp 63) = .int .u64 p.1 := by rw [hev]; exact hG.pre 13 (dm 13 hdep rfl)
            have e1 : A.eval (.tmp 65) = .int .u64 c.val := by rw [hev]; exact hG.pre 15 (dm 15 hdep rfl)
            have hg : us 8 = .bool true := hG.pre 8 (dm 8 hdep rfl)
            rw [if_pos (by rw [hy]; exact yb hg)]; unfold Oper.wp execOp; generalize A.eval = ev at e0 e1 ⊢; go_simp; exact hK _ _ (hG.first (by first | rfl | (simp; done) | (simp; omega) | (simp; assumption)))
          · intro dn us w6 A hev hy hG hdn hdep K hK
            have e0 : A.eval (.tmp 58) = .bool true := by rw [hev]; exact hG.pre 8 (dm 8 hdep rfl)
            have e1 : A.eval (.tmp 66) = .bool true := by rw [hev]; exact hG.pre 16 (dm 16 hdep rfl)
            have e2 : A.eval (.const (.bool false)) = .bool false := by rw [hev]; rfl
            rw [if_pos (by rfl)]; unfold Oper.wp execOp; generalize A.eval = ev at e0 e1 e2 ⊢; go_simp; exact hK _ _ (hG.first (by first | rfl | (simp; done) | (simp; omega) | (simp; assumption)))
          · intro dn us w6 A hev hy hG hdn hdep K hK
            have e0 : A.eval (.tmp 67) = .bool true := by rw [hev]; exact hG.pre 17 (dm 17 hdep rfl)
            rw [if_pos (by rfl)]; unfold Oper.wp execOp; generalize A.eval = ev at e0 ⊢; go_simp; exact hK _ _ (hG.first (by first | rfl | (simp; done) | (simp; omega) | (simp; assumption)))
          · intro dn us w6 A hev hy hG hdn hdep K hK
            have e0 : A.eval (.tmp 10) = .slice wa wn wc := by rw [hev]; rfl
            have hg : us 18 = .bool true := hG.pre 18 (dm 18 hdep rfl)
            rw [if_pos (by rw [hy]; exact yb hg)]; unfold Oper.wp execOp; generalize A.eval = ev at e0 ⊢; go_simp; exact hK _ _ (hG.first (by first | rfl | (simp; done) | (simp; omega) | (simp; assumption)))
          · intro dn us w6 A hev hy hG hdn hdep K hK
            have e0 : A.eval (.tmp 69) = .slice wa wn wc := by rw [hev]; exact hG.pre 19 (dm 19 hdep rfl)
            have hg : us 18 = .bool true := hG.pre 18 (dm 18 hdep rfl)
            rw [if_pos (by rw [hy]; exact yb hg)]; unfold Oper.wp execOp; generalize A.eval = ev at e0 ⊢; go_simp; exact hK _ _ (hG.first (by first | rfl | (simp; done) | (simp; omega) | (simp; assumption)))
          · intro dn us w6 A hev hy hG hdn hdep K hK
            have e0 : A.eval (.tmp 3) = .pointer (some ⟨w.heap.size + 1, 0, none⟩) := by rw [hev]; rfl
            have hg : us 18 = .bool true := hG.pre 18 (dm 18 hdep rfl)
            rw [if_pos (by rw [hy]; exact yb hg)]; unfold Oper.wp execOp; generalize A.eval = ev at e0 ⊢; go_simp; exact hK _ _ (hG.first (by first | rfl | (simp; done) | (simp; omega) | (simp; assumption)))
          · intro dn us w6 A hev hy hG hdn hdep K hK
            have e0 : A.eval (.tmp 71) = .pointer (some ⟨w.heap.size + 1, 3, none⟩) := by rw [hev]; exact hG.pre 21 (dm 21 hdep rfl)
            have zk3 : w6.cell? ⟨w.heap.size + 1, 3, none⟩ = some (.int .i64 c.limit) := by rw [hG.below.cell (World.block_lt_of_cell? _ _ k3)]; exact k3
            have hg : us 18 = .bool true := hG.pre 18 (dm 18 hdep rfl)
            rw [if_pos (by rw [hy]; exact yb hg)]; unfold Oper.wp execOp; generalize A.eval = ev at e0 ⊢; go_simp; exact hK _ _ (hG.first (by first | rfl | (simp; done) | (simp; omega) | (simp; assumption)))
          · intro dn us w6 A hev hy hG hdn hdep K hK
            have e0 : A.eval (.tmp 70) = .int .i64 wn := by rw [hev]; exact hG.pre 20 (dm 20 hdep rfl)
            have e1 : A.eval (.tmp 72) = .int .i64 c.limit := by rw [hev]; exact hG.pre 22 (dm 22 hdep rfl)
            have hg : us 18 = .bool true := hG.pre 18 (dm 18 hdep rfl)
            rw [if_pos (by rw [hy]; exact yb hg)]; unfold Oper.wp execOp; generalize A.eval = ev at e0 e1 ⊢; go_simp; exact hK _ _ (hG.first (by first | rfl | (simp; done) | (simp; omega) | (simp; assumption)))
          · intro dn us w6 A hev hy hG hdn hdep K hK
            have e0 : A.eval (.tmp 68) = .bool true := by rw [hev]; exact hG.pre 18 (dm 18 hdep rfl)
            have e1 : A.eval (.tmp 73) = .bool true := by rw [hev]; exact hG.pre 23 (dm 23 hdep rfl)
            have e2 : A.eval (.const (.bool false)) = .bool false := by rw [hev]; rfl
            rw [if_pos (by rfl)]; unfold Oper.wp execOp; generalize A.eval = ev at e0 e1 e2 ⊢; go_simp; exact hK _ _ (hG.first (by first | rfl | (simp; done) | (simp; omega) | (simp; assumption)))
          intro dn us wA hG hall
          have u24 : us 24 = .bool true := hG.pre 24 (hall 24 (by decide))
          have DA := hG.below
          simp only [fillA, fillT, Nat.reduceAdd, List.setIfInBounds_toArray, List.set_cons_zero, List.set_cons_succ, u24]
          clear hG hall u24
          have R := ownsRow_still HRW.out DA
          have p0' : wA.cell? ⟨pb, po + i * 2, none⟩ = some (.int .u64 p.1) := by rw [DA.cell (World.block_lt_of_cell? _ _ p0)]; exact p0
          have p1' : wA.cell? ⟨pb, po + i * 2 + 1, none⟩ = some (.int .u64 p.2) := by rw [DA.cell (World.block_lt_of_cell? _ _ p1c)]; exact p1c
          have hbA : Below w9.heap.size w9 wA := hb.trans (DA.mono hb.size)
          clear p0 p1c k1 k2 k3
          go_wp2_with (at_builtin; refine wpList_append_own _ rfl (.tmp 75) (.tmp 80) 49 rfl w9.heap.size 103 i0 (.agg #[.int .u64 0, .int .u64 0]) 2 16 Tryz.underlying49 hi0 hz0 hz1 hz2 rfl (by decide) _ wn _ rfl (ownsRow_below R ((Below.refl _ _).alloc (Nat.le_refl _) _) rfl) ⟨wA.heap.size, 0, none⟩ 1 1 [.int .u64 p.1, .int .u64 p.2] rfl rfl ?c1 ?c2 ?c3 ?c4 ?c5 ?next)
          case c1 =>
            intro j u hu
            match j, hu with
            | 0, hu => cases hu; exact (At.new wA 103 #[.int .u64 p.1, .int .u64 p.2]).cell 0
            | 1, hu => cases hu; exact (At.new wA 103 #[.int .u64 p.1, .int .u64 p.2]).cell 1
            | j + 2, hu => simp at hu
          case c2 =>
            intro u hu
            simp only [List.mem_cons, List.not_mem_nil, or_false] at hu
            rcases hu with rfl | rfl <;> rfl
          case c3 => unfold maxLen; omega
          case c4 => omega
          case c5 => have := hbA.size; simp; omega
          case next =>
            intro v2 wB hR2 hg2 _
            have hB8 : Below w9.heap.size w9 wB := grownRow (hbA.trans (((Below.refl _ wA).alloc (Nat.le_refl _) _).mono hbA.size)) R hg2
            go_wp2_with fail
            go_roundg (pn - (i + 1))
            case measure => omega
            case rel =>
              refine ⟨i + 1, rfl, by omega, ?_, hB8⟩
              have h := HNX.out
              rw [HWN.out, if_pos ⟨⟨q1, q2⟩, q3⟩] at h
              rw [h, List.length_append, pairsV_append, HWN.out]
              exact hR2
        · have e : i = pn := by omega
          have hPI := HPN.out
          have hPWT : PairsIn wr (fun _ => True) (.slice wa (wantL c (x.lay.prs.take i)).length wc) (wantL c x.lay.prs) := by
            have h := PW
            rw [e, hPI, List.take_length] at h ⊢
            exact h
          generalize (wantL c (x.lay.prs.take i)).length = wn at *
          obtain ⟨x9', x11', x13'⟩ := HX9.out
          have x9 : wr.cell? ⟨g, 9, none⟩ = some (.bool true) := by rw [hb.cell HA9.out.lt]; exact x9'
          have x11 : wr.cell? ⟨g, 11, none⟩ = some (.bool true) := by rw [hb.cell HA9.out.lt]; exact x11'
          have x13 : wr.cell? ⟨g, 13, none⟩ = some (.slice e1 n1 f1) := by rw [hb.cell HA9.out.lt]; exact x13'
          have HHR9 := HHR
          replace HHR := Lib.hid (HHR9.out.below hb)
          obtain ⟨-, g5, -, -⟩ := HHR.out.wfacts
          have sc1 : wr.cell? ⟨w.heap.size, 1, none⟩ = some (.slice ia x.items.length ic) := (E9.below' hb).cell 1
          have PSC := Lib.hid (HS9.out.below hb)
          have PWA := Lib.hid (HP9.out.below hb)
          have PWT := Lib.hid hPWT
          have HSL := Lib.hid (show p0.2.pairs.length ≤ 100000 by rw [HN1.out]; exact hsl)
          have HPL := Lib.hid (show x.lay.prs.length ≤ 100000 by rw [← HPN.out]; omega)
          clear x9' x11' x13' hPWT PW hrow hPI
          go_wp2_with fail
          refine wp_region_J (l := [_, _, _, _, _, _, _, _, _, _, _, _, _, _, _, _, _, _, _, _, _, _, _, _, _, _, _, _, _, _, _, _, _, _, _, _, _, _, _]) (QW (fun j v => match j with | 0 => v = .bool true | 1 => v = .bool true | 2 => v = .pointer (some ⟨g, 9, none⟩) | 3 => v = .bool true | 4 => v = .bool true | 5 => v = .bool true | 6 => v = .pointer (some ⟨g, 10, none⟩) | 7 => v = .pointer (some ⟨g, 11, none⟩) | 8 => v = .bool true | 9 => v = .bool true | 10 => v = .bool true | 11 => v = .pointer (some ⟨g, 10, none⟩) | 12 => v = .pointer (some ⟨g, 13, none⟩) | 13 => v = .slice e1 n1 f1 | 14 => v = .slice wa wn wc | 15 => v = .bool true | 16 => v = .bool true | 17 => v = .bool true | 18 => v = .slice pa pn pc | 19 => v = .pointer (some ⟨k.bw, 0, none⟩) | 21 => v = .bool true | 22 => v = .bool true | 23 => v = .bool true | 24 => v = .pointer (some ⟨k.bw, 0, none⟩) | 25 => v = .pointer (some ⟨k.bw, 0, none⟩) | 26 => v = .pointer (some ⟨k.bw, 5, none⟩) | 27 => v = .pointer (some ⟨k.bc, 0, none⟩) | 28 => v = .int .i64 p0.1.steps | 29 => v = .int .i64 x.lay.steps | 30 => v = .int .i64 (p0.1.steps - x.lay.steps) | 31 => v = .pointer (some ⟨w.heap.size, 1, none⟩) | 32 => v = .slice ia x.items.length ic | 33 => v = .int .i64 x.items.length | 34 => v = .int .i64 (2 * x.items.length) | 35 => v = .int .i64 (2 * x.items.length + 1) | 36 => v = .bool true | 37 => v = .bool true | 38 => v = .bool true | _ => True) 20 (fun w v => PairsIn w (fun _ => True) v x.lay.prs) wr) (by kernel_rfl) (by kernel_rfl) (fun us => QW.start us) ⟨?_, ?_, ?_, ?_, ?_, ?_, ?_, ?_, ?_, ?_, ?_, ?_, ?_, ?_, ?_, ?_, ?_, ?_, ?_, ?_, ?_, ?_, ?_, ?_, ?_, ?_, ?_, ?_, ?_, ?_, ?_, ?_, ?_, ?_, ?_, ?_, ?_, ?_, ?_, trivial⟩ ?_
          · intro dn us w6 A hev hy hG hdn hdep K hK
            have e0 : A.eval (.tmp 5) = .bool true := by rw [hev]; rfl
            rw [if_pos (by rfl)]; unfold Oper.wp execOp; generalize A.eval = ev at e0 ⊢; go_simp; exact hK _ _ (hG.first (by decide) (by first | rfl | (simp; done) | (simp; omega) | (simp; assumption)))
          · intro dn us w6 A hev hy hG hdn hdep K hK
            have e0 : A.eval (.tmp 82) = .bool true := by rw [hev]; exact hG.pre 0 (dm 0 hdep rfl)
            rw [if_pos (by rfl)]; unfold Oper.wp execOp; generalize A.eval = ev at e0 ⊢; go_simp; exact hK _ _ (hG.first (by decide) (by first | rfl | (simp; done) | (simp; omega) | (simp; assumption)))
          · intro dn us w6 A hev hy hG hdn hdep K hK
            have e0 : A.eval (.tmp 9) = .pointer (some ⟨g, 0, none⟩) := by rw [hev]; rfl
            have hg : us 1 = .bool true := hG.pre 1 (dm 1 hdep rfl)
            rw [if_pos (by rw [hy]; exact yb hg)]; unfold Oper.wp execOp; generalize A.eval = ev at e0 ⊢; go_simp; exact hK _ _ (hG.first (by decide) (by first | rfl | (simp; done) | (simp; omega) | (simp; assumption)))
          · intro dn us w6 A hev hy hG hdn hdep K hK
            have e0 : A.eval (.tmp 84) = .pointer (some ⟨g, 9, none⟩) := by rw [hev]; exact hG.pre 2 (dm 2 hdep rfl)
            have zx9 : w6.cell? ⟨g, 9, none⟩ = some (.bool true) := by rw [hG.below.cell (World.block_lt_of_cell? _ _ x9)]; exact x9
            have hg : us 1 = .bool true := hG.pre 1 (dm 1 hdep rfl)
            rw [if_pos (by rw [hy]; exact yb hg)]; unfold Oper.wp execOp; generalize A.eval = ev at e0 ⊢; go_simp; exact hK _ _ (hG.first (by decide) (by first | rfl | (simp; done) | (simp; omega) | (simp; assumption)))
          · intro dn us w6 A hev hy hG hdn hdep K hK
            have e0 : A.eval (.tmp 83) = .bool true := by rw [hev]; exact hG.pre 1 (dm 1 hdep rfl)
            have e1 : A.eval (.tmp 85) = .bool true := by rw [hev]; exact hG.pre 3 (dm 3 hdep rfl)
            have e2 : A.eval (.const (.bool false)) = .bool false := by rw [hev]; rfl
            rw [if_pos (by rfl)]; unfold Oper.wp execOp; generalize A.eval = ev at e0 e1 e2 ⊢; go_simp; exact hK _ _ (hG.first (by decide) (by first | rfl | (simp; done) | (simp; omega) | (simp; assumption)))
          · intro dn us w6 A hev hy hG hdn hdep K hK
            have e0 : A.eval (.tmp 86) = .bool true := by rw [hev]; exact hG.pre 4 (dm 4 hdep rfl)
            rw [if_pos (by rfl)]; unfold Oper.wp execOp; generalize A.eval = ev at e0 ⊢; go_simp; exact hK _ _ (hG.first (by decide) (by first | rfl | (simp; done) | (simp; omega) | (simp; assumption)))
          · intro dn us w6 A hev hy hG hdn hdep K hK
            have e0 : A.eval (.tmp 9) = .pointer (some ⟨g, 0, none⟩) := by rw [hev]; rfl
            have hg : us 5 = .bool true := hG.pre 5 (dm 5 hdep rfl)
            rw [if_pos (by rw [hy]; exact yb hg)]; unfold Oper.wp execOp; generalize A.eval = ev at e0 ⊢; go_simp; exact hK _ _ (hG.first (by decide) (by first | rfl | (simp; done) | (simp; omega) | (simp; assumption)))
          · intro dn us w6 A hev hy hG hdn hdep K hK
            have e0 : A.eval (.tmp 88) = .pointer (some ⟨g, 10, none⟩) := by rw [hev]; exact hG.pre 6 (dm 6 hdep rfl)
            have hg : us 5 = .bool true := hG.pre 5 (dm 5 hdep rfl)
            rw [if_pos (by rw [hy]; exact yb hg)]; unfold Oper.wp execOp; generalize A.eval = ev at e0 ⊢; go_simp; exact hK _ _ (hG.first (by decide) (by first | rfl | (simp; done) | (simp; omega) | (simp; assumption)))
          · intro dn us w6 A hev hy hG hdn hdep K hK
            have e0 : A.eval (.tmp 89) = .pointer (some ⟨g, 11, none⟩) := by rw [hev]; exact hG.pre 7 (dm 7 hdep rfl)
            have zx11 : w6.cell? ⟨g, 11, none⟩ = some (.bool true) := by rw [hG.below.cell (World.block_lt_of_cell? _ _ x11)]; exact x11
            have hg : us 5 = .bool true := hG.pre 5 (dm 5 hdep rfl)
            rw [if_pos (by rw [hy]; exact yb hg)]; unfold Oper.wp execOp; generalize A.eval = ev at e0 ⊢; go_simp; exact hK _ _ (hG.first (by decide) (by first | rfl | (simp; done) | (simp; omega) | (simp; assumption)))
          · intro dn us w6 A hev hy hG hdn hdep K hK
            have e0 : A.eval (.tmp 87) = .bool true := by rw [hev]; exact hG.pre 5 (dm 5 hdep rfl)
            have e1 : A.eval (.tmp 90) = .bool true := by rw [hev]; exact hG.pre 8 (dm 8 hdep rfl)
            have e2 : A.eval (.const (.bool false)) = .bool false := by rw [hev]; rfl
            rw [if_pos (by rfl)]; unfold Oper.wp execOp; generalize A.eval = ev at e0 e1 e2 ⊢; go_simp; exact hK _ _ (hG.first (by decide) (by first | rfl | (simp; done) | (simp; omega) | (simp; assumption)))
          · intro dn us w6 A hev hy hG hdn hdep K hK
            have e0 : A.eval (.tmp 91) = .bool true := by rw [hev]; exact hG.pre 9 (dm 9 hdep rfl)
            rw [if_pos (by rfl)]; unfold Oper.wp execOp; generalize A.eval = ev at e0 ⊢; go_simp; exact hK _ _ (hG.first (by decide) (by first | rfl | (simp; done) | (simp; omega) | (simp; assumption)))
          · intro dn us w6 A hev hy hG hdn hdep K hK
            have e0 : A.eval (.tmp 9) = .pointer (some ⟨g, 0, none⟩) := by rw [hev]; rfl
            have hg : us 10 = .bool true := hG.pre 10 (dm 10 hdep rfl)
            rw [if_pos (by rw [hy]; exact yb hg)]; unfold Oper.wp execOp; generalize A.eval = ev at e0 ⊢; go_simp; exact hK _ _ (hG.first (by decide) (by first | rfl | (simp; done) | (simp; omega) | (simp; assumption)))
          · intro dn us w6 A hev hy hG hdn hdep K hK
            have e0 : A.eval (.tmp 93) = .pointer (some ⟨g, 10, none⟩) := by rw [hev]; exact hG.pre 11 (dm 11 hdep rfl)
            have hg : us 10 = .bool true := hG.pre 10 (dm 10 hdep rfl)
            rw [if_pos (by rw [hy]; exact yb hg)]; unfold Oper.wp execOp; generalize A.eval = ev at e0 ⊢; go_simp; exact hK _ _ (hG.first (by decide) (by first | rfl | (simp; done) | (simp; omega) | (simp; assumption)))
          · intro dn us w6 A hev hy hG hdn hdep K hK
            have e0 : A.eval (.tmp 94) = .pointer (some ⟨g, 13, none⟩) := by rw [hev]; exact hG.pre 12 (dm 12 hdep rfl)
            have zx13 : w6.cell? ⟨g, 13, none⟩ = some (.slice e1 n1 f1) := by rw [hG.below.cell (World.block_lt_of_cell? _ _ x13)]; exact x13
            have hg : us 10 = .bool true := hG.pre 10 (dm 10 hdep rfl)
            rw [if_pos (by rw [hy]; exact yb hg)]; unfold Oper.wp execOp; generalize A.eval = ev at e0 ⊢; go_simp; exact hK _ _ (hG.first (by decide) (by first | rfl | (simp; done) | (simp; omega) | (simp; assumption)))
          · intro dn us w6 A hev hy hG hdn hdep K hK
            have e0 : A.eval (.tmp 10) = .slice wa wn wc := by rw [hev]; rfl
            have hg : us 10 = .bool true := hG.pre 10 (dm 10 hdep rfl)
            rw [if_pos (by rw [hy]; exact yb hg)]; unfold Oper.wp execOp; generalize A.eval = ev at e0 ⊢; go_simp; exact hK _ _ (hG.first (by decide) (by first | rfl | (simp; done) | (simp; omega) | (simp; assumption)))
          · intro dn us w6 A hev hy hG hdn hdep K hK
            have e0 : A.eval (.tmp 95) = .slice e1 n1 f1 := by rw [hev]; exact hG.pre 13 (dm 13 hdep rfl)
            have e1 : A.eval (.tmp 96) = .slice wa wn wc := by rw [hev]; exact hG.pre 14 (dm 14 hdep rfl)
            have ef : A.eval (.func 50) = .func (.func 50) #[] #[] := by rw [hev]; rfl
            have hg : us 10 = .bool true := hG.pre 10 (dm 10 hdep rfl)
            rw [if_pos (by rw [hy]; exact yb hg)]; unfold Oper.wp execOp; generalize A.eval = ev at e0 e1 ef ⊢; go_simp; refine (same09_any w6 (PSC.out.below hG.below) (PWT.out.below hG.below) HSL.out).mono ?_
            rintro e wq ⟨rfl, hb⟩
            rw [decide_eq_true HEQ.out]
            exact hK _ _ (hG.called (by decide) (fun _ _ _ a b => a.below b) rfl hb)
          · intro dn us w6 A hev hy hG hdn hdep K hK
            have e0 : A.eval (.tmp 92) = .bool true := by rw [hev]; exact hG.pre 10 (dm 10 hdep rfl)
            have e1 : A.eval (.tmp 97) = .bool true := by rw [hev]; exact hG.pre 15 (dm 15 hdep rfl)
            have e2 : A.eval (.const (.bool false)) = .bool false := by rw [hev]; rfl
            rw [if_pos (by rfl)]; unfold Oper.wp execOp; generalize A.eval = ev at e0 e1 e2 ⊢; go_simp; exact hK _ _ (hG.first (by decide) (by first | rfl | (simp; done) | (simp; omega) | (simp; assumption)))
          · intro dn us w6 A hev hy hG hdn hdep K hK
            have e0 : A.eval (.tmp 98) = .bool true := by rw [hev]; exact hG.pre 16 (dm 16 hdep rfl)
            rw [if_pos (by rfl)]; unfold Oper.wp execOp; generalize A.eval = ev at e0 ⊢; go_simp; exact hK _ _ (hG.first (by decide) (by first | rfl | (simp; done) | (simp; omega) | (simp; assumption)))
          · intro dn us w6 A hev hy hG hdn hdep K hK
            have e0 : A.eval (.tmp 7) = .slice pa pn pc := by rw [hev]; rfl
            have hg : us 17 = .bool true := hG.pre 17 (dm 17 hdep rfl)
            rw [if_pos (by rw [hy]; exact yb hg)]; unfold Oper.wp execOp; generalize A.eval = ev at e0 ⊢; go_simp; exact hK _ _ (hG.first (by decide) (by first | rfl | (simp; done) | (simp; omega) | (simp; assumption)))
          · intro dn us w6 A hev hy hG hdn hdep K hK
            have e0 : A.eval (.tmp 6) = .pointer (some ⟨k.bw, 0, none⟩) := by rw [hev]; rfl
            have hg : us 17 = .bool true := hG.pre 17 (dm 17 hdep rfl)
            rw [if_pos (by rw [hy]; exact yb hg)]; unfold Oper.wp execOp; generalize A.eval = ev at e0 ⊢; go_simp; exact hK _ _ (hG.first (by decide) (by first | rfl | (simp; done) | (simp; omega) | (simp; assumption)))
          · intro dn us w6 A hev hy hG hdn hdep K hK
            have e0 : A.eval (.tmp 101) = .pointer (some ⟨k.bw, 0, none⟩) := by rw [hev]; exact hG.pre 19 (dm 19 hdep rfl)
            have ef : A.eval (.func 48) = .func (.func 48) #[] #[] := by rw [hev]; rfl
            have hg : us 17 = .bool true := hG.pre 17 (dm 17 hdep rfl)
            rw [if_pos (by rw [hy]; exact yb hg)]; unfold Oper.wp execOp; generalize A.eval = ev at e0 ef ⊢; go_simp; refine (lpairs_any w6 (HHR.out.below hG.below) HBR.out HCR.out).mono ?_
            rintro e wq ⟨vq, rfl, hRq, hb⟩
            rw [HPR.out] at hRq
            exact hK _ _ (hG.told trivial (PairsIn.of_row (N := fun _ => True) hRq (fun _ _ => trivial)) hb)
          · intro dn us w6 A hev hy hG hdn hdep K hK
            have e0 : A.eval (.tmp 100) = .slice pa pn pc := by rw [hev]; exact hG.pre 18 (dm 18 hdep rfl)
            have d20 : dn 20 = true := allD_mem hdep (by decide)
            have e1 : A.eval (.tmp 102) = us 20 := by rw [hev]; rfl
            have ef : A.eval (.func 50) = .func (.func 50) #[] #[] := by rw [hev]; rfl
            have hg : us 17 = .bool true := hG.pre 17 (dm 17 hdep rfl)
            rw [if_pos (by rw [hy]; exact yb hg)]; unfold Oper.wp execOp; generalize A.eval = ev at e0 e1 ef ⊢; go_simp; refine (same09_any w6 (PWA.out.below hG.below) (hG.mem d20) HPL.out).mono ?_
            rintro e wq ⟨rfl, hb⟩
            rw [decide_eq_true rfl]
            exact hK _ _ (hG.called (by decide) (fun _ _ _ a b => a.below b) rfl hb)
          · intro dn us w6 A hev hy hG hdn hdep K hK
            have e0 : A.eval (.tmp 99) = .bool true := by rw [hev]; exact hG.pre 17 (dm 17 hdep rfl)
            have e1 : A.eval (.tmp 103) = .bool true := by rw [hev]; exact hG.pre 21 (dm 21 hdep rfl)
            have e2 : A.eval (.const (.bool false)) = .bool false := by rw [hev]; rfl
            rw [if_pos (by rfl)]; unfold Oper.wp execOp; generalize A.eval = ev at e0 e1 e2 ⊢; go_simp; exact hK _ _ (hG.first (by decide) (by first | rfl | (simp; done) | (simp; omega) | (simp; assumption)))
          · intro dn us w6 A hev hy hG hdn hdep K hK
            have e0 : A.eval (.tmp 104) = .bool true := by rw [hev]; exact hG.pre 22 (dm 22 hdep rfl)
            rw [if_pos (by rfl)]; unfold Oper.wp execOp; generalize A.eval = ev at e0 ⊢; go_simp; exact hK _ _ (hG.first (by decide) (by first | rfl | (simp; done) | (simp; omega) | (simp; assumption)))
          · intro dn us w6 A hev hy hG hdn hdep K hK
            have e0 : A.eval (.tmp 6) = .pointer (some ⟨k.bw, 0, none⟩) := by rw [hev]; rfl
            have hg : us 23 = .bool true := hG.pre 23 (dm 23 hdep rfl)
            rw [if_pos (by rw [hy]; exact yb hg)]; unfold Oper.wp execOp; generalize A.eval = ev at e0 ⊢; go_simp; exact hK _ _ (hG.first (by decide) (by first | rfl | (simp; done) | (simp; omega) | (simp; assumption)))
          · intro dn us w6 A hev hy hG hdn hdep K hK
            have e0 : A.eval (.tmp 106) = .pointer (some ⟨k.bw, 0, none⟩) := by rw [hev]; exact hG.pre 24 (dm 24 hdep rfl)
            have hg : us 23 = .bool true := hG.pre 23 (dm 23 hdep rfl)
            rw [if_pos (by rw [hy]; exact yb hg)]; unfold Oper.wp execOp; generalize A.eval = ev at e0 ⊢; go_simp; exact hK _ _ (hG.first (by decide) (by first | rfl | (simp; done) | (simp; omega) | (simp; assumption)))
          · intro dn us w6 A hev hy hG hdn hdep K hK
            have e0 : A.eval (.tmp 107) = .pointer (some ⟨k.bw, 0, none⟩) := by rw [hev]; exact hG.pre 25 (dm 25 hdep rfl)
            have hg : us 23 = .bool true := hG.pre 23 (dm 23 hdep rfl)
            rw [if_pos (by rw [hy]; exact yb hg)]; unfold Oper.wp execOp; generalize A.eval = ev at e0 ⊢; go_simp; exact hK _ _ (hG.first (by decide) (by first | rfl | (simp; done) | (simp; omega) | (simp; assumption)))
          · intro dn us w6 A hev hy hG hdn hdep K hK
            have e0 : A.eval (.tmp 108) = .pointer (some ⟨k.bw, 5, none⟩) := by rw [hev]; exact hG.pre 26 (dm 26 hdep rfl)
            have zg5 : w6.cell? ⟨k.bw, 5, none⟩ = some (.pointer (some ⟨k.bc, 0, none⟩)) := by rw [hG.below.cell (World.block_lt_of_cell? _ _ g5)]; exact g5
            have hg : us 23 = .bool true := hG.pre 23 (dm 23 hdep rfl)
            rw [if_pos (by rw [hy]; exact yb hg)]; unfold Oper.wp execOp; generalize A.eval = ev at e0 ⊢; go_simp; exact hK _ _ (hG.first (by decide) (by first | rfl | (simp; done) | (simp; omega) | (simp; assumption)))
          · intro dn us w6 A hev hy hG hdn hdep K hK
            have e0 : A.eval (.tmp 109) = .pointer (some ⟨k.bc, 0, none⟩) := by rw [hev]; exact hG.pre 27 (dm 27 hdep rfl)
            have ef : A.eval (.func 24) = .func (.func 24) #[] #[] := by rw [hev]; rfl
            have hg : us 23 = .bool true := hG.pre 23 (dm 23 hdep rfl)
            rw [if_pos (by rw [hy]; exact yb hg)]; unfold Oper.wp execOp; generalize A.eval = ev at e0 ef ⊢; go_simp; refine (steps_any w6 (HHR.out.below hG.below).cells).mono ?_
            rintro e wq ⟨rfl, rfl⟩
            exact hK _ _ (hG.first (by decide) rfl)
          · intro dn us w6 A hev hy hG hdn hdep K hK
            have e0 : A.eval (.tmp 8) = .int .i64 x.lay.steps := by rw [hev]; rfl
            have hg : us 23 = .bool true := hG.pre 23 (dm 23 hdep rfl)
            rw [if_pos (by rw [hy]; exact yb hg)]; unfold Oper.wp execOp; generalize A.eval = ev at e0 ⊢; go_simp; exact hK _ _ (hG.first (by decide) (by first | rfl | (simp; done) | (simp; omega) | (simp; assumption)))
          · intro dn us w6 A hev hy hG hdn hdep K hK
            have e0 : A.eval (.tmp 110) = .int .i64 p0.1.steps := by rw [hev]; exact hG.pre 28 (dm 28 hdep rfl)
            have e1 : A.eval (.tmp 111) = .int .i64 x.lay.steps := by rw [hev]; exact hG.pre 29 (dm 29 hdep rfl)
            have hg : us 23 = .bool true := hG.pre 23 (dm 23 hdep rfl)
            rw [if_pos (by rw [hy]; exact yb hg)]; unfold Oper.wp execOp; generalize A.eval = ev at e0 e1 ⊢; go_simp; exact hK _ _ (hG.first (by decide) (by first | rfl | (simp; done) | (simp; omega) | (simp; assumption)))
          · intro dn us w6 A hev hy hG hdn hdep K hK
            have e0 : A.eval (.tmp 2) = .pointer (some ⟨w.heap.size, 0, none⟩) := by rw [hev]; rfl
            have hg : us 23 = .bool true := hG.pre 23 (dm 23 hdep rfl)
            rw [if_pos (by rw [hy]; exact yb hg)]; unfold Oper.wp execOp; generalize A.eval = ev at e0 ⊢; go_simp; exact hK _ _ (hG.first (by decide) (by first | rfl | (simp; done) | (simp; omega) | (simp; assumption)))
          · intro dn us w6 A hev hy hG hdn hdep K hK
            have e0 : A.eval (.tmp 113) = .pointer (some ⟨w.heap.size, 1, none⟩) := by rw [hev]; exact hG.pre 31 (dm 31 hdep rfl)
            have zsc1 : w6.cell? ⟨w.heap.size, 1, none⟩ = some (.slice ia x.items.length ic) := by rw [hG.below.cell (World.block_lt_of_cell? _ _ sc1)]; exact sc1
            have hg : us 23 = .bool true := hG.pre 23 (dm 23 hdep rfl)
            rw [if_pos (by rw [hy]; exact yb hg)]; unfold Oper.wp execOp; generalize A.eval = ev at e0 ⊢; go_simp; exact hK _ _ (hG.first (by decide) (by first | rfl | (simp; done) | (simp; omega) | (simp; assumption)))
          · intro dn us w6 A hev hy hG hdn hdep K hK
            have e0 : A.eval (.tmp 114) = .slice ia x.items.length ic := by rw [hev]; exact hG.pre 32 (dm 32 hdep rfl)
            have hg : us 23 = .bool true := hG.pre 23 (dm 23 hdep rfl)
            rw [if_pos (by rw [hy]; exact yb hg)]; unfold Oper.wp execOp; generalize A.eval = ev at e0 ⊢; go_simp; exact hK _ _ (hG.first (by decide) (by first | rfl | (simp; done) | (simp; omega) | (simp; assumption)))
          · intro dn us w6 A hev hy hG hdn hdep K hK
            have e0 : A.eval (.const (.int .i64 2)) = .int .i64 2 := by rw [hev]; rfl
            have e1 : A.eval (.tmp 115) = .int .i64 x.items.length := by rw [hev]; exact hG.pre 33 (dm 33 hdep rfl)
            have hg : us 23 = .bool true := hG.pre 23 (dm 23 hdep rfl)
            rw [if_pos (by rw [hy]; exact yb hg)]; unfold Oper.wp execOp; generalize A.eval = ev at e0 e1 ⊢; go_simp; exact hK _ _ (hG.first (by decide) (by first | rfl | (simp; done) | (simp; omega) | (simp; assumption)))
          · intro dn us w6 A hev hy hG hdn hdep K hK
            have e0 : A.eval (.tmp 116) = .int .i64 (2 * x.items.length) := by rw [hev]; exact hG.pre 34 (dm 34 hdep rfl)
            have e1 : A.eval (.const (.int .i64 1)) = .int .i64 1 := by rw [hev]; rfl
            have hg : us 23 = .bool true := hG.pre 23 (dm 23 hdep rfl)
            rw [if_pos (by rw [hy]; exact yb hg)]; unfold Oper.wp execOp; generalize A.eval = ev at e0 e1 ⊢; go_simp; exact hK _ _ (hG.first (by decide) (by first | rfl | (simp; done) | (simp; omega) | (simp; assumption)))
          · intro dn us w6 A hev hy hG hdn hdep K hK
            have e0 : A.eval (.tmp 112) = .int .i64 (p0.1.steps - x.lay.steps) := by rw [hev]; exact hG.pre 30 (dm 30 hdep rfl)
            have e1 : A.eval (.tmp 117) = .int .i64 (2 * x.items.length + 1) := by rw [hev]; exact hG.pre 35 (dm 35 hdep rfl)
            have hg : us 23 = .bool true := hG.pre 23 (dm 23 hdep rfl)
            rw [if_pos (by rw [hy]; exact yb hg)]; unfold Oper.wp execOp; generalize A.eval = ev at e0 e1 ⊢; go_simp; exact hK _ _ (hG.first (by decide) (by first | rfl | (simp; done) | (simp; omega) | (simp; assumption)))
          · intro dn us w6 A hev hy hG hdn hdep K hK
            have e0 : A.eval (.tmp 105) = .bool true := by rw [hev]; exact hG.pre 23 (dm 23 hdep rfl)
            have e1 : A.eval (.tmp 118) = .bool true := by rw [hev]; exact hG.pre 36 (dm 36 hdep rfl)
            have e2 : A.eval (.const (.bool false)) = .bool false := by rw [hev]; rfl
            rw [if_pos (by rfl)]; unfold Oper.wp execOp; generalize A.eval = ev at e0 e1 e2 ⊢; go_simp; exact hK _ _ (hG.first (by decide) (by first | rfl | (simp; done) | (simp; omega) | (simp; assumption)))
          · intro dn us w6 A hev hy hG hdn hdep K hK
            have e0 : A.eval (.tmp 119) = .bool true := by rw [hev]; exact hG.pre 37 (dm 37 hdep rfl)
            rw [if_pos (by rfl)]; unfold Oper.wp execOp; generalize A.eval = ev at e0 ⊢; go_simp; exact hK _ _ (hG.first (by decide) (by first | rfl | (simp; done) | (simp; omega) | (simp; assumption)))
          intro dn us wA hG hall
          have u38 : us 38 = .bool true := hG.pre 38 (hall 38 (by decide))
          have DA := hG.below
          simp only [fillA, fillT, Nat.reduceAdd, List.setIfInBounds_toArray, List.set_cons_zero, List.set_cons_succ, u38]
          clear hG hall u38
          go_wp2_with fail
          go_ret
          exact ⟨rfl, D9.trans ((hb.trans (DA.mono hb.size)).mono D9.size)⟩
end Go.Proofs.YtccmjljlfgbicaaGreat

/- ScanQuiet returns true for every scene and call: a scan that nobody disturbs, in a sound world, tells the pairs of the range, as far as the limit, and changes nothing; it takes two steps for each node, and one, at most. No condition. -/
namespace Go.Proofs.YtccmjljlfgbicaaGreat.scanQuiet
open Go.ChangeShapes Go.WideShapes Go.ChangeAt Go.RowKit
set_option linter.unusedVariables false

theorem own : ownKnob Tryz.prog.godebug = none := by kernel_rfl
theorem laidOut : laidOutB Tryz.prog = true := by kernel_rfl

set_option maxRecDepth 100000 in
theorem lifted (os : Os) (started : os.Started) (H : Type) (enc : TypeId × Value → H) :
    ReturnsInHanded {} Tryz.checked os 11 .any (Rows.scanQuietSpec.pre6 enc Tryz.prog Tryz.f11 Rows.scanQuietRow.domain false) (Rows.scanQuietSpec.post enc Tryz.prog Tryz.f11 false true false false) := by
  refine returnsInHanded_of_change (C := Tryz.checked) own started (by kernel_rfl) Tryz.func11
    (ChangeSpec.witness6 (enc := enc) (C := Tryz.checked) false ⟨#[], #[.agg #[.int .u8 0, .slice none 0 0, .slice none 0 0], .agg #[.int .i64 0, .int .u64 0, .int .u64 0, .int .i64 0]], []⟩ 12 (by kernel_rfl) (by kernel_rfl) (by kernel_rfl) (by kernel_rfl)) ?_
  intro W base args ds gs before hval0 hW hcnd _
  have hval : ∀ (j : Nat) t v, Tryz.f11.params[j]? = some t → args[j]? = some v → Value.okWide Tryz.prog W .any base t v := hval0
  have hW' := hW
  obtain ⟨p, q, hA0, hV, rfl, hfz, hnd⟩ := hW
  have hA : DataW.TrodAll enc Tryz.prog W 0 (fun _ => true) true Tryz.f11.params.toList args.toList ds p := hA0
  rw [Tryz.params11] at hA hval
  obtain ⟨v0, vs0, d0, ds0, p0, q0, hargs, rfl, rfl, h0, r0⟩ := trodAll_cons hA
  obtain ⟨v1, vs1, d1, ds1, p1, q1, rfl, rfl, rfl, h1, r1⟩ := trodAll_cons r0
  obtain ⟨rfl, rfl, rfl⟩ := trodAll_nil r1
  obtain rfl : args = #[v0, v1] := by cases args; simp_all
  obtain ⟨rfl, rfl⟩ := trodVars_none hV
  obtain ⟨c0, ia0, ca0, ic0, cc0, hS0, hx0⟩ := open_scene (hval 0 _ v0 rfl rfl) h0
  obtain ⟨c1, rfl, hf1, hm1⟩ := open_call (hval 1 _ v1 rfl rfl) h1
  clear hA0 hval0
  simp only [List.append_nil] at hW'
  refine (quiet_walk c1 W hx0 hS0 hf1 hm1).mono fun e W' ⟨he, hb⟩ => ?_
  subst he
  have hlt : ∀ y ∈ p0 ++ (p1), y.block < W.heap.size := fun y hy => by simpa using hW'.lt y (by simpa using hy)
  exact ⟨_, rfl, post_new hW' hb (fun _ _ _ => trodAll_cons_mk (shut_bool Tryz.underlying4 _) trodAll_mk0)
    (fun sp hsp => by
      have := (trodAll_cons_mk (WideElems.Trod_stays laidOut (by kernel_rfl) (of_decide_eq_true (by kernel_rfl)) h0 (fun y hy => hb.same (hlt y (List.mem_append_left _ hy))) (fun y hy => hsp y (List.mem_append_left _ hy))) (trodAll_cons_mk (WideElems.Trod_stays laidOut (by kernel_rfl) (of_decide_eq_true (by kernel_rfl)) h1 (fun y hy => hb.same (hlt y (List.mem_append_right _ hy))) (fun y hy => hsp y (List.mem_append_right _ hy))) trodAll_mk0))
      simp only [List.append_nil] at this
      exact this)
    (fun _ => rfl) (ok_one (by kernel_rfl) rfl (okWide_bool_mk Tryz.underlying4 _))⟩

theorem over : Rows.scanQuietRow.holds Tryz.pinned (OpenSpec.ofChange Rows.scanQuietSpec) :=
  OpenClaim.holds_of_wide 11 Tryz.f11 rfl rfl rfl rfl rfl rfl rfl ⟨rfl, rfl, rfl, rfl, rfl⟩ rfl rfl rfl rfl rfl (by kernel_rfl) Tryz.func11 (by kernel_rfl)
    (of_decide_eq_true (by kernel_rfl)) (by unfold Func.isWrapper; first | (rw [if_pos (by decide +kernel)]; kernel_rfl) | (rw [if_neg (by decide +kernel)]; exact ⟨rfl, rfl⟩))
    (fun os started H enc _ => lifted os started H enc)

theorem proved : Rows.ScanQuietSaid :=
  over
#print axioms proved
end Go.Proofs.YtccmjljlfgbicaaGreat.scanQuiet

