/- Contract of lay: the world of a scene. -/
import Derived.Test.YtccmjljlfgbicaaLayA
import Derived.Test.YtccmjljlfgbicaaWorld2
import Derived.Test.YtccmjljlfgbicaaLaid
import Derived.Test.YtccmjljlfgbicaaLook
import Derived.Test.YtccmjljlfgbicaaSeq
import Derived.Test.YtccmjljlfgbicaaWalkE
namespace Go.Proofs.Ytccmjljlfgbicaa
open Go.ChangeShapes Go.WideShapes Go.ChangeAt Go.RowKit

set_option maxRecDepth 100000 in
set_option maxHeartbeats 4000000 in
theorem lay10_any {x : Scene} {v : Value} {ia ca : Option Addr} {ic cc : Nat} (w : World) (hx : x.fits) (hlen : x.items.length ≤ 12) (hcl : x.calls.length ≤ 6) (hS : SceneAt w v x ia ca ic cc) :
    Calls Try.prog 17 #[v] w fun e w' => ∃ k : Blks, e = .returned (.pointer (some ⟨k.bw, 0, none⟩)) ∧ Holds k x.lay w' ∧ (∀ i, (i = k.bw ∨ i = k.bb ∨ Own k i) → w.heap.size ≤ i) ∧ Below w.heap.size w w' := by
  obtain ⟨rfl, hI, hC⟩ := hS
  have HX := Lib.hid hx
  have HC := Lib.hid hC
  have HI := Lib.hid hI
  have HF := Lib.hid hx.fuel
  clear hx hC hI
  go_enter Try.func17, Try.ntmps17
  go_wp2_with (first
    | (go_at_call 28; refine (sconf_any _ HF.out).mono ?_; rintro e w1 ⟨rfl, hb1⟩)
    | (go_at_call 25; refine (wnew_yes x.conf w1 (conf_may HF.out)).mono ?_; rintro e w2 ⟨k, rfl, hH, hK, hb2⟩; obtain ⟨c0, c1, c2⟩ := scene_cells (hb1.trans (hb2.mono hb1.size)))
    | (go_at_call 29; refine (sorted_any w2 (HI.out.below (((Below.refl _ w).alloc (Nat.le_refl _) _).trans ((hb1.trans (hb2.mono hb1.size)).mono (by simp)))) hlen).mono ?_; rintro e w5 ⟨v5, rfl, hR5, hb5⟩; obtain ⟨ao, vc, rfl, hao⟩ := row_any hR5))
  have hB5 : Below w.heap.size w w5 := ((Below.refl _ w).alloc (Nat.le_refl _) _).trans ((hb1.trans ((hb2.mono hb1.size).trans (hb5.mono (by have := hb1.size; have := hb2.size; omega)))).mono (by simp))
  have hH5 := hH.below hb5
  have hsz : w.heap.size < w1.heap.size := by have := hb1.size; simp at this; omega
  have hK' : ∀ i, (i = k.bw ∨ i = k.bb ∨ Own k i) → w.heap.size < i := fun i hi => by have := hK i hi; omega
  have hao' : 0 < x.items.length → ∃ g, ao = some ⟨g, 0, none⟩ ∧ ¬ Own k g ∧ g < w5.heap.size := fun h0 => by
    obtain ⟨g, h1, h2, h3⟩ := hao h0
    exact ⟨g, h1, hH.fresh h2, h3⟩
  have hnw : ¬ Own k w.heap.size := fun e => by have := hK' _ (.inr (.inr e)); omega
  have HB5 := Lib.hid hB5
  have HK := Lib.hid hK'
  have HR5 := Lib.hid hR5
  have HAO := Lib.hid hao'
  have lw5 : w.heap.size < w5.heap.size := by have := hb2.size; have := hb5.size; omega
  obtain ⟨c0, c1, c2⟩ := scene_cells (hb1.trans ((hb2.mono hb1.size).trans (hb5.mono (by have := hb1.size; have := hb2.size; omega))))
  clear hB5 hK' hK hR5 hao hao' hb1 hb2 hb5 hH
  go_loopg [6, 7, 8] x.items.length (fun gg v6 v7 v8 wr => ∃ i : Nat, v8 = .int .i64 i ∧ i + gg = x.items.length ∧ ∃ s at_ op, (x.sorted.take i).foldl layItem (St.new x.conf, 1, 0) = (s, at_, op) ∧ v6 = .int .i64 at_ ∧ v7 = .int .i64 op ∧ Holds k s wr ∧ Only (Own k) w5 wr)
  case atStart => exact ⟨0, rfl, by omega, _, _, _, rfl, rfl, rfl, hH5, Only.refl _ _⟩
  case round =>
    obtain ⟨i, rfl, hi, s, at_, op, hs, rfl, rfl, hH, hO⟩ := hrel
    have d2 : wr.cell? ⟨w.heap.size, 2, none⟩ = some (.slice ca x.calls.length cc) := by rw [hO.cell lw5 hnw]; exact c2
    by_cases hlt : i < x.items.length
    · obtain ⟨it, hit⟩ : ∃ it, x.sorted[i]? = some it := ⟨_, List.getElem?_eq_getElem (by rw [sorted_len]; exact hlt)⟩
      obtain ⟨g, rfl, hgo, hgl⟩ := HAO.out (by omega)
      obtain ⟨n0, n1, n2, n3, n4⟩ := row_item HR5.out hO hgo hit
      have HIT := Lib.hid hit
      have HS := Lib.hid hs
      have HFT := Lib.hid (sorted_fits HX.out.items it (List.mem_of_getElem? hit))
      clear hit hs
      obtain ⟨_, g5, g6, gl⟩ := hH.wfacts
      cases hag : it.again with
      | true =>
        have HL := Lib.hid (show s.layOp op it = (s, op) by unfold St.layOp; rw [if_pos hag])
        rw [hag] at n4
        clear hag
        go_wp2_with (first
          | (go_at_call 31; refine (make_any 0 op _ hH).mono ?_; rintro e w6 ⟨rfl, hH6, hO6⟩; obtain ⟨_, f5, f6, fl⟩ := hH6.wfacts)
          | (go_at_call 32; refine (peek_any at_ _ hH6.cells).mono ?_; rintro e w7 ⟨rfl, rfl⟩)
          | (go_at_call 35; refine (rmarked_any _ _ (peek_range hH6.ok at_).1 (peek_range hH6.ok at_).2).mono ?_; rintro e w7 ⟨rfl, rfl⟩)
          | (go_at_call 34; refine (rpack_any _ _ _).mono ?_; rintro e w7 ⟨rfl, rfl⟩)
          | (go_at_call 33; refine (wset_any _ _ w6 hH6 (refOf_u64 _ _)).mono ?_; rintro e w8 ⟨rfl, hH8, hO8⟩; obtain ⟨m0, m1, m2, m3, m4⟩ := row_item HR5.out ((hO.trans hO6).trans hO8) hgo HIT.out)
          | (go_at_call 33; refine (wset_any _ _ w8 hH8 (refOf_u64 _ _)).mono ?_; rintro e w9 ⟨rfl, hH9, hO9⟩))
        go_roundg (x.items.length - (i + 1))
        case measure => omega
        case rel =>
          refine ⟨i + 1, rfl, by omega, _, _, _, (take_next HIT.out _).trans (congrArg (fun p => layItem p it) HS.out), ?_⟩
          simp only [HL.out]
          exact ⟨by first | rfl | trivial, by first | trivial | rfl, hH9, ((hO.trans hO6).trans hO8).trans hO9⟩
      | false =>
        have HL := Lib.hid (show s.layOp op it = ((s.begin 0 ⟨1, it.key, it.val, 0⟩).1.swap ((s.begin 0 ⟨1, it.key, it.val, 0⟩).1.wordAt (s.begin 0 ⟨1, it.key, it.val, 0⟩).2.1) 0 it.word, (s.begin 0 ⟨1, it.key, it.val, 0⟩).2.1) by unfold St.layOp; rw [if_neg (by rw [hag]; decide)])
        rw [hag] at n4
        clear hag
        have hcf : (⟨1, it.key, it.val, 0⟩ : GCall).fits := ⟨HFT.out.1.1, HFT.out.1.2, HFT.out.2.1.1, HFT.out.2.1.2⟩
        have HCF := Lib.hid hcf
        clear hcf
        have hgw : g < wr.heap.size := Nat.lt_of_lt_of_le hgl hO.size
        have hnb : ¬ Own k k.bw := hH.ne_w
        go_wp2_with fail
        go_region_held3 (fun w' => w'.cell? ⟨k.bw, 6, none⟩ = some (.pointer (some ⟨k.bb, 0, none⟩)) ∧ w'.cell? ⟨g, i * 5, none⟩ = some (.int .u64 it.key) ∧ w'.cell? ⟨g, i * 5 + 1, none⟩ = some (.int .u64 it.val))
          (first
            | go_keep
            | (refine ⟨?_, ?_, ?_⟩ <;> (rw [hOb.cell (by first | exact gl | exact hgw) (by first | exact hnb | exact hgo)]; assumption)))
          ((go_at_call 30; refine (begin_any 0 ⟨1, it.key, it.val, 0⟩ _ hH.drew HCF.out).mono ?_; rintro e wb ⟨rfl, hHb, hOb⟩))
        obtain ⟨_, b5, b6, bl⟩ := hHb.wfacts
        obtain ⟨p0, p1, p2, p3, p4⟩ := row_item HR5.out (hO.drew.trans hOb) hgo HIT.out
        go_wp2_with (first
          | (go_at_call 12; refine (wturn_any _ _ _ _ hHb HFT.out.2.2).mono ?_; rintro e wt ⟨rfl, hHt, hOt0⟩; have hOt := (hO.drew.trans hOb).trans hOt0; obtain ⟨_, t5, t6, tl⟩ := hHt.wfacts)
          | (go_at_call 31; refine (make_any 0 (s.begin 0 ⟨1, it.key, it.val, 0⟩).2.1 _ hHt).mono ?_; rintro e w6 ⟨rfl, hH6, hO6⟩; obtain ⟨_, f5, f6, fl⟩ := hH6.wfacts)
          | (go_at_call 32; refine (peek_any at_ _ hH6.cells).mono ?_; rintro e w7 ⟨rfl, rfl⟩)
          | (go_at_call 35; refine (rmarked_any _ _ (peek_range hH6.ok at_).1 (peek_range hH6.ok at_).2).mono ?_; rintro e w7 ⟨rfl, rfl⟩)
          | (go_at_call 34; refine (rpack_any _ _ _).mono ?_; rintro e w7 ⟨rfl, rfl⟩)
          | (go_at_call 33; refine (wset_any _ _ w6 hH6 (refOf_u64 _ _)).mono ?_; rintro e w8 ⟨rfl, hH8, hO8⟩; obtain ⟨m0, m1, m2, m3, m4⟩ := row_item HR5.out ((hOt.trans hO6).trans hO8) hgo HIT.out)
          | (go_at_call 33; refine (wset_any _ _ w8 hH8 (refOf_u64 _ _)).mono ?_; rintro e w9 ⟨rfl, hH9, hO9⟩))
        go_roundg (x.items.length - (i + 1))
        case measure => omega
        case rel =>
          refine ⟨i + 1, rfl, by omega, _, _, _, (take_next HIT.out _).trans (congrArg (fun p => layItem p it) HS.out), ?_⟩
          simp only [HL.out]
          exact ⟨by first | rfl | trivial, by first | trivial | rfl, hH9, ((hOt.trans hO6).trans hO8).trans hO9⟩
    · have e : i = x.items.length := by omega
      rw [e, ← sorted_len, List.take_length] at hs
      have HS := Lib.hid (show (St.new x.conf).layItems x.sorted = (s, at_, op) from hs)
      clear hs e
      have HOs := Lib.hid hO
      have HHs := Lib.hid hH
      have HL := Lib.hid (show x.lay = s.layCalls x.calls by unfold Scene.lay; rw [HS.out])
      clear hO hH
      go_wp2_with fail
      go_loopg [14] x.calls.length (fun gg v14 wc => ∃ j : Nat, v14 = .int .i64 j ∧ j + gg = x.calls.length ∧ Holds k (s.layCalls (x.calls.take j)) wc ∧ Only (Own k) w5 wc)
      case atStart => exact ⟨0, rfl, by omega, HHs.out, HOs.out⟩
      case round =>
        obtain ⟨j, rfl, hj, hH, hO⟩ := hrel
        have d2 : wr.cell? ⟨w.heap.size, 2, none⟩ = some (.slice ca x.calls.length cc) := by rw [hO.cell lw5 hnw]; exact c2
        have lwr : w.heap.size < wr.heap.size := Nat.lt_of_lt_of_le lw5 hO.size
        by_cases hlt : j < x.calls.length
        · obtain ⟨it, hit⟩ : ∃ it, x.calls[j]? = some it := ⟨_, List.getElem?_eq_getElem hlt⟩
          have hBr : Below w.heap.size w wr := HB5.out.trans (hO.below (by omega) fun i hi hn => by have := HK.out i (.inr (.inr hn)); omega)
          obtain ⟨b, o, rfl, lb, n0, n1, n2, n3⟩ := call_read (HC.out.below hBr) hit
          have hbo : ¬ Own k b := fun e => by
            have := HK.out b (.inr (.inr e))
            obtain ⟨b', o', he, hlt', _⟩ := call_read HC.out hit
            injection he with he; injection he with he1 he2; omega
          have HIT := Lib.hid hit
          have HFT := Lib.hid (HX.out.calls it (List.mem_of_getElem? hit))
          clear hit
          obtain ⟨_, g5, g6, gl⟩ := hH.wfacts
          have hnb : ¬ Own k k.bw := hH.ne_w
          go_wp2_with fail
          go_region_held3 (fun w' => w'.cell? ⟨k.bw, 6, none⟩ = some (.pointer (some ⟨k.bb, 0, none⟩)) ∧ w'.cell? ⟨w.heap.size, 2, none⟩ = some (.slice (some ⟨b, o, none⟩) x.calls.length cc) ∧ w'.cell? ⟨b, o + j * 4, none⟩ = some (.int .i64 it.kind) ∧ w'.cell? ⟨b, o + j * 4 + 1, none⟩ = some (.int .u64 it.key) ∧ w'.cell? ⟨b, o + j * 4 + 2, none⟩ = some (.int .u64 it.val) ∧ w'.cell? ⟨b, o + j * 4 + 3, none⟩ = some (.int .i64 it.limit))
            (first
              | go_keep
              | (refine ⟨?_, ?_, ?_, ?_, ?_, ?_⟩ <;> (rw [hOb.cell (by first | exact gl | exact lwr | exact lb) (by first | exact hnb | exact hnw | exact hbo)]; assumption)))
            ((go_at_call 30; refine (begin_any 2 it _ hH.drew HFT.out).mono ?_; rintro e wb ⟨rfl, hHb, hOb⟩))
          go_wp2_with fail
          go_roundg (x.calls.length - (j + 1))
          case measure => omega
          case rel =>
            refine ⟨j + 1, rfl, by omega, ?_, hO.drew.trans hOb⟩
            rw [calls_next HIT.out]
            exact hHb
        · have e : j = x.calls.length := by omega
          rw [e, List.take_length] at hH
          have HH := Lib.hid hH
          clear hH e
          go_wp2_with fail
          go_ret
          refine ⟨k, rfl, by rw [HL.out]; exact HH.out, fun i hi => Nat.le_of_lt (HK.out i hi), HB5.out.trans (hO.below (by omega) fun i hi hn => by have := HK.out i (.inr (.inr hn)); omega)⟩

end Go.Proofs.Ytccmjljlfgbicaa

/- The scene that is awake (chapter 10): pure. -/
namespace Go.Proofs.Ytccmjljlfgbicaa
open Go.ChangeShapes Go.WideShapes Go.ChangeAt Go.RowKit

/-- Steps of a walk that nobody disturbs. -/
def walkIter : Nat → St × Walk → St × Walk
  | 0, p => p
  | n + 1, p => (walkIter n p).1.walkStep (walkIter n p).2
theorem walkIter_zero (p : St × Walk) : walkIter 0 p = p := rfl
theorem walkIter_next {n : Nat} {p : St × Walk} {s : St} {x : Walk} (h : walkIter n p = (s, x)) : walkIter (n + 1) p = ((s.walkStep x).1, (s.walkStep x).2) := by rw [walkIter, h]
def awScene : Scene := ⟨0, [⟨1, 0, 2, false, false⟩, ⟨3, 0, 0, false, false⟩], []⟩
def awStart : St × Walk := (awScene.lay, Walk.new 3 1)
/-- As walkIter, from the front. -/
def walkRun : Nat → St × Walk → St × Walk
  | 0, p => p
  | n + 1, p => walkRun n (p.1.walkStep p.2)
theorem walkRun_iter (n : Nat) : ∀ p, walkRun n p = walkIter n p := by
  have h : ∀ n p, walkIter n (p.1.walkStep p.2) = walkIter (n + 1) p := by
    intro n
    induction n with
    | zero => intro p; rfl
    | succ n ih => intro p; rw [walkIter, ih]; rfl
  induction n with
  | zero => intro p; rfl
  | succ n ih => intro p; rw [walkRun, ih, h]
set_option maxRecDepth 100000 in
theorem aw_pure' : (walkRun 20 awStart).2.done = true ∧ (walkRun 20 awStart).2.stop = false ∧ (walkRun 20 awStart).2.curr = 0 ∧ (walkRun 20 awStart).2.seen = 1 ∧
    (walkRun 20 awStart).1.peek ((walkRun 20 awStart).1.wordAt 1) = 1 ∧ (((walkRun 20 awStart).1.load ((walkRun 20 awStart).1.wordAt 1)).chain 0).length = 1 ∧ ((walkRun 20 awStart).1.load ((walkRun 20 awStart).1.wordAt 1)).steps = 17 := by decide +kernel

end Go.Proofs.Ytccmjljlfgbicaa

/- Contract of awake (chapter 10). -/
namespace Go.Proofs.Ytccmjljlfgbicaa
open Go.ChangeShapes Go.WideShapes Go.ChangeAt Go.RowKit

/-- A scene whose items were built in place. -/
theorem sceneAt_built (w : World) (f : Int) (l : List GItem) (e : TypeId) : SceneAt (w.alloc (.cells (itemsV l).toArray e)) (.agg #[.int .u8 f, .slice (some ⟨w.heap.size, 0, none⟩) l.length l.length, .slice none 0 0]) ⟨f, l, []⟩ (some ⟨w.heap.size, 0, none⟩) none l.length 0 := by
  refine ⟨rfl, ?_, ?_⟩
  · intro j u hu
    refine ⟨w.heap.size, 0, rfl, ?_⟩
    have h := At.cell (At.new w e (itemsV l).toArray) (0 + j)
    rw [h]
    simpa using hu
  · intro j u hu
    simp [callsV] at hu

theorem aw_fits : awScene.fits := by
  refine ⟨by decide, ?_, ?_⟩
  · intro i hi
    simp only [awScene, List.mem_cons, List.not_mem_nil, or_false] at hi
    rcases hi with rfl | rfl
    · unfold GItem.fits; decide
    · unfold GItem.fits; decide
  · intro c hc; cases hc

/-- A walk that is laid into a block. -/
abbrev putWalk (W : World) (b : Nat) (y : Walk) : World :=
  (((((((((W.setCell ⟨b, 0, none⟩ (.int .u64 y.key)).setCell ⟨b, 1, none⟩ (.int .i64 y.mode)).setCell ⟨b, 2, none⟩ (.int .i64 y.phase)).setCell ⟨b, 3, none⟩ (.int .i64 y.pred)).setCell ⟨b, 4, none⟩ (.int .i64 y.curr)).setCell ⟨b, 5, none⟩ (.int .u64 y.next)).setCell ⟨b, 6, none⟩ (.int .i64 y.seen)).setCell ⟨b, 7, none⟩ (.int .i64 y.found)).setCell ⟨b, 8, none⟩ (.bool y.stop)).setCell ⟨b, 9, none⟩ (.bool y.done)
theorem put_walk {k : Blks} {s : St} {W : World} {b : Nat} {x : Walk} (h : Holds k s W) (hb : Out k b) (hA : At W b 54 x.cells) (y : Walk) : Holds k s (putWalk W b y) ∧ At (putWalk W b y) b 54 y.cells ∧ Only (OwnX k b) W (putWalk W b y) := by
  refine ⟨?_, ?_, ?_⟩
  · repeat (refine Holds.far ?_ hb _ _)
    exact h
  · have h10 := (((((((((hA.set 0 (.int .u64 y.key)).set 1 (.int .i64 y.mode)).set 2 (.int .i64 y.phase)).set 3 (.int .i64 y.pred)).set 4 (.int .i64 y.curr)).set 5 (.int .u64 y.next)).set 6 (.int .i64 y.seen)).set 7 (.int .i64 y.found)).set 8 (.bool y.stop)).set 9 (.bool y.done)
    simp only [List.setIfInBounds_toArray, List.set_cons_zero, List.set_cons_succ] at h10
    exact h10
  · repeat (refine Only.set ?_ (.inl (.inr rfl)) _)
    exact Only.refl _ _

set_option maxRecDepth 100000 in
set_option maxHeartbeats 1000000 in
theorem awake10_any (w : World) : Calls Try.prog 16 #[] w fun e w' => e = .returned (.bool true) ∧ Below w.heap.size w w' := by
  go_enter Try.func16, Try.ntmps16
  go_wp2_with (first
    | (go_at_call 17; refine (lay10_any _ aw_fits (by decide) (by decide) (sceneAt_built w 0 awScene.items 74)).mono ?_; rintro e w1 ⟨k, rfl, hH, hK, hb1⟩)
    | (go_at_call 18; refine (walknew_any 3 1 _).mono ?_; rintro e w2 ⟨rfl, hb2⟩))
  have H2 := hH.below hb2
  have hsz := hb2.size
  have hs1 := hb1.size
  have hO2 : Out k w2.heap.size := H2.out (Nat.le_refl _)
  have hB2 : Below w.heap.size w w2 := ((Below.refl _ w).alloc (Nat.le_refl _) _).trans ((hb1.trans (hb2.mono hs1)).mono (by simp))
  have hK' : ∀ i, i < w.heap.size → ¬ OwnX k w2.heap.size i := by
    intro i hi hn
    simp at hs1
    rcases hn with hn | hn
    · have := hK i (.inr (.inr hn)); simp at this; omega
    · omega
  clear hK hb1 hb2 hH
  have hst : awStart = (awScene.lay, Walk.new 3 1) := rfl
  generalize awScene.lay = s0 at *
  have HST := Lib.hid hst
  clear hst
  go_loopg [3] 20 (fun gg v3 wr => ∃ i : Nat, v3 = .int .i64 i ∧ i + gg = 20 ∧ ∃ s x, walkIter i awStart = (s, x) ∧ Holds k s wr ∧ At wr w2.heap.size 54 x.cells ∧ (0 ≤ x.next ∧ x.next ≤ 18446744073709551615) ∧ Only (OwnX k w2.heap.size) w2 wr)
  case atStart =>
    exact ⟨0, rfl, by omega, s0, Walk.new 3 1, (walkIter_zero _).trans HST.out, H2.alloc _, At.new w2 _ _, by decide, (Only.refl _ w2).alloc _⟩
  case round =>
    obtain ⟨i, rfl, hi, s, x, hs, hH, hA, hn, hO⟩ := hrel
    have HS := Lib.hid hs
    clear hs
    obtain ⟨⟨x0, x1, x2, x3, x4, x5, x6, x7, x8, x9⟩, xf, xl⟩ := walk_facts hA
    by_cases hlt : i < 20
    · go_wp2_with (go_at_call 20; refine (wstep_any x _ hH hn).mono ?_; rintro e w4 ⟨rfl, hH4, hO4⟩; have hA4 := hA.only hO4 hO2.1; obtain ⟨_, zf, zl⟩ := walk_facts hA4)
      go_roundg (20 - (i + 1))
      case measure => omega
      case rel =>
        obtain ⟨p1, p2, p3⟩ := put_walk hH4 hO2 hA4 (s.walkStep x).2
        exact ⟨i + 1, rfl, by omega, _, _, walkIter_next HS.out, p1, p2, step_next hH.ok hn, (hO.trans (onlyX hO4)).trans p3⟩
    · have e : i = 20 := by omega
      rw [e] at HS
      obtain ⟨q1, q2, q3, q4, q5, q6, q7⟩ := aw_pure'
      rw [walkRun_iter, HS.out] at q1 q2 q3 q4 q5 q6 q7
      simp only at q1 q2 q3 q4 q5 q6 q7
      rw [q1] at x9
      rw [q2] at x8
      rw [q3] at x4
      rw [q4] at x6
      have Q5 := Lib.hid q5
      clear q1 q2 q3 q4 q5 e
      go_wp2_with (first
        | (go_at_call 46; refine (wword_any 1 _ hH).mono ?_; rintro e w5 ⟨rfl, hH5, hO5⟩; rw [Q5.out])
        | (go_at_call 26; refine (chain_any 0 _ hH5).mono ?_; rintro e w6 ⟨v6, rfl, hR6, hb6⟩; rw [q6] at hR6; obtain ⟨ao, vc, rfl, hao⟩ := row_any hR6; have hH6 := hH5.below hb6; obtain ⟨_, f5, f6, fl⟩ := hH6.wfacts)
        | (go_at_call 19; refine (steps_any _ hH6.cells).mono ?_; rintro e w7 ⟨rfl, rfl⟩; rw [q7]))
      go_ret
      have hs5 := (hO.trans (onlyX (b := w2.heap.size) hO5)).size
      have hs6 := hB2.size
      refine ⟨rfl, (hB2.trans ((hO.trans (onlyX hO5)).below (by omega) hK')).trans (hb6.mono (by omega))⟩

end Go.Proofs.Ytccmjljlfgbicaa

