/- A pair of a list in memory. Plain. -/
import Derived.Test.YtccmjljlfgbicaaScn
import Derived.Test.YtccmjljlfgbicaaSeq
import Derived.Test.YtccmjljlfgbicaaLayA
import Derived.Test.YtccmjljlfgbicaaWorld2
import Derived.Test.YtccmjljlfgbicaaLkT
import Derived.Test.YtccmjljlfgbicaaLkQ
import Derived.Test.YtccmjljlfgbicaaZAw
import Derived.Test.YtccmjljlfgbicaaRegR
import Derived.Test.YtccmjljlfgbicaaOpenC
import Derived.Test.YtccmjljlfgbicaaOpen
import Derived.WalkKit
import Derived.ProofKit
import Derived.OpenShut
namespace Go.Proofs.Ytccmjljlfgbicaa
open Go.ChangeShapes Go.WideShapes Go.ChangeAt Go.RowKit

theorem PairsIn.at_ {w : World} {N : Nat → Prop} {ao : Option Addr} {n cap : Nat} {l : List (Int × Int)} {i : Nat} {p : Int × Int} (h : PairsIn w N (.slice ao n cap) l) (hi : l[i]? = some p) :
    ∃ b o, ao = some ⟨b, o, none⟩ ∧ N b ∧ w.cell? ⟨b, o + i * 2, none⟩ = some (.int .u64 p.1) ∧ w.cell? ⟨b, o + i * 2 + 1, none⟩ = some (.int .u64 p.2) := by
  rcases h with ⟨rfl, _⟩ | ⟨b, o, c, e, _, _, h4, h5⟩
  · cases hi
  · injection e with e1 e2 e3
    obtain ⟨g1, g2⟩ := pairsV_get hi
    exact ⟨b, o, e1, h4, h5 _ _ g1, by rw [Nat.add_assoc]; exact h5 _ _ g2⟩
end Go.Proofs.Ytccmjljlfgbicaa

/- A row of numbers in memory. Plain. -/
namespace Go.Proofs.Ytccmjljlfgbicaa
open Go.ChangeShapes Go.WideShapes Go.ChangeAt Go.RowKit

/-- A row of numbers in memory. -/
def RowAt (N : Nat → Prop) (ao : Option Addr) (l : List Int) (w : World) : Prop := ∀ (t : Nat) (n : Int), l[t]? = some n → ∃ gl, ao = some ⟨gl, 0, none⟩ ∧ N gl ∧ w.cell? ⟨gl, t, none⟩ = some (.int .i64 n)
theorem row_cells {w : World} {base : Nat} {v : Value} {l : List Int} {N : Nat → Prop} (h : w.ownsRow base 3 1 v l.length (l.map (.int .i64))) (hN : ∀ g, base ≤ g → N g) : ∃ ao cap, v = .slice ao l.length cap ∧ RowAt N ao l w := by
  rcases h.2 with ⟨rfl, h2⟩ | ⟨g, cap, cur, rfl, h2, h3, h4, h5, h6, h7⟩
  · have e : l = [] := List.length_eq_zero_iff.1 (by omega)
    subst e
    exact ⟨none, 0, rfl, fun t n ht => by cases ht⟩
  · have hA : At w g 3 cur := h3
    refine ⟨some ⟨g, 0, none⟩, cap, rfl, fun t n ht => ⟨g, rfl, hN g h2, ?_⟩⟩
    have hm : (l.map (Value.int .i64))[t]? = some (.int .i64 n) := by simp [ht]
    rw [hA.cell, ← Array.getElem?_toList]
    rw [← h7, List.getElem?_take] at hm
    split at hm
    · exact hm
    · cases hm

end Go.Proofs.Ytccmjljlfgbicaa

/- Contract of lay: the world of a scene. -/
namespace Go.Proofs.Ytccmjljlfgbicaa
open Go.ChangeShapes Go.WideShapes Go.ChangeAt Go.RowKit

set_option maxRecDepth 100000 in
set_option maxHeartbeats 4000000 in
theorem lay09_any {x : Scene} {v : Value} {ia ca : Option Addr} {ic cc : Nat} (w : World) (hx : x.fits) (hlen : x.items.length ≤ 12) (hcl : x.calls.length ≤ 6) (hS : SceneAt w v x ia ca ic cc) :
    Calls Try.prog 22 #[v] w fun e w' => ∃ k : Blks, e = .returned (.pointer (some ⟨k.bw, 0, none⟩)) ∧ Holds k x.lay w' ∧ (∀ i, (i = k.bw ∨ i = k.bb ∨ Own k i) → w.heap.size ≤ i) ∧ Below w.heap.size w w' := by
  obtain ⟨rfl, hI, hC⟩ := hS
  have HX := Lib.hid hx
  have HC := Lib.hid hC
  have HI := Lib.hid hI
  have HF := Lib.hid hx.fuel
  clear hx hC hI
  go_enter Try.func22, Try.ntmps22
  go_wp2_with (first
    | (go_at_call 28; refine (sconf_any _ HF.out).mono ?_; rintro e w1 ⟨rfl, hb1⟩)
    | (go_at_call 25; refine (wnew_yes x.conf w1 (conf_may HF.out)).mono ?_; rintro e w2 ⟨k, rfl, hH, hK, hb2⟩; obtain ⟨c0, c1, c2⟩ := scene_cells (hb1.trans (hb2.mono hb1.size)))
    | (go_at_call 29; refine (sorted_any w2 (HI.out.below (((Below.refl _ w).alloc (Nat.le_refl _) _).trans ((hb1.trans (hb2.mono hb1.size)).mono (by simp)))) hlen).mono ?_; rintro e w5 ⟨v5, rfl, hR5, hb5⟩; obtain ⟨ao, vc, rfl, hao⟩ := row_any hR5))
  have hB5 : Below w.heap.size w w5 := ((Below.refl _ w).alloc (Nat.le_refl _) _).trans ((hb1.trans ((hb2.mono hb1.size).trans (hb5.mono (by have := hb1.size; have := hb2.size; omega)))).mono (by simp))
  have hH5 := hH.below hb5
  have hsz : w.heap.size < w1.heap.size := by have := hb1.size; simp at this; omega
  have hK' : ∀ i, (i = k.bw ∨ i = k.bb ∨ Own k i) → w.heap.size < i := fun i hi => by have := hK i hi; omega
  have hao' : 0 < x.items.length → ∃ g, ao = some ⟨g, 0, none⟩ ∧ ¬ Own k g ∧ g < w5.heap.size := fun h0 => by
    obtain ⟨g, h1, h2, h3⟩ := hao h0
    exact ⟨g, h1, hH.fresh h2, h3⟩
  have hnw : ¬ Own k w.heap.size := fun e => by have := hK' _ (.inr (.inr e)); omega
  have HB5 := Lib.hid hB5
  have HK := Lib.hid hK'
  have HR5 := Lib.hid hR5
  have HAO := Lib.hid hao'
  have lw5 : w.heap.size < w5.heap.size := by have := hb2.size; have := hb5.size; omega
  obtain ⟨c0, c1, c2⟩ := scene_cells (hb1.trans ((hb2.mono hb1.size).trans (hb5.mono (by have := hb1.size; have := hb2.size; omega))))
  clear hB5 hK' hK hR5 hao hao' hb1 hb2 hb5 hH
  go_loopg [6, 7, 8] x.items.length (fun gg v6 v7 v8 wr => ∃ i : Nat, v8 = .int .i64 i ∧ i + gg = x.items.length ∧ ∃ s at_ op, (x.sorted.take i).foldl layItem (St.new x.conf, 1, 0) = (s, at_, op) ∧ v6 = .int .i64 at_ ∧ v7 = .int .i64 op ∧ Holds k s wr ∧ Only (Own k) w5 wr)
  case atStart => exact ⟨0, rfl, by omega, _, _, _, rfl, rfl, rfl, hH5, Only.refl _ _⟩
  case round =>
    obtain ⟨i, rfl, hi, s, at_, op, hs, rfl, rfl, hH, hO⟩ := hrel
    have d2 : wr.cell? ⟨w.heap.size, 2, none⟩ = some (.slice ca x.calls.length cc) := by rw [hO.cell lw5 hnw]; exact c2
    by_cases hlt : i < x.items.length
    · obtain ⟨it, hit⟩ : ∃ it, x.sorted[i]? = some it := ⟨_, List.getElem?_eq_getElem (by rw [sorted_len]; exact hlt)⟩
      obtain ⟨g, rfl, hgo, hgl⟩ := HAO.out (by omega)
      obtain ⟨n0, n1, n2, n3, n4⟩ := row_item HR5.out hO hgo hit
      have HIT := Lib.hid hit
      have HS := Lib.hid hs
      have HFT := Lib.hid (sorted_fits HX.out.items it (List.mem_of_getElem? hit))
      clear hit hs
      obtain ⟨_, g5, g6, gl⟩ := hH.wfacts
      cases hag : it.again with
      | true =>
        have HL := Lib.hid (show s.layOp op it = (s, op) by unfold St.layOp; rw [if_pos hag])
        rw [hag] at n4
        clear hag
        go_wp2_with (first
          | (go_at_call 31; refine (make_any 0 op _ hH).mono ?_; rintro e w6 ⟨rfl, hH6, hO6⟩; obtain ⟨_, f5, f6, fl⟩ := hH6.wfacts)
          | (go_at_call 32; refine (peek_any at_ _ hH6.cells).mono ?_; rintro e w7 ⟨rfl, rfl⟩)
          | (go_at_call 35; refine (rmarked_any _ _ (peek_range hH6.ok at_).1 (peek_range hH6.ok at_).2).mono ?_; rintro e w7 ⟨rfl, rfl⟩)
          | (go_at_call 34; refine (rpack_any _ _ _).mono ?_; rintro e w7 ⟨rfl, rfl⟩)
          | (go_at_call 33; refine (wset_any _ _ w6 hH6 (refOf_u64 _ _)).mono ?_; rintro e w8 ⟨rfl, hH8, hO8⟩; obtain ⟨m0, m1, m2, m3, m4⟩ := row_item HR5.out ((hO.trans hO6).trans hO8) hgo HIT.out)
          | (go_at_call 33; refine (wset_any _ _ w8 hH8 (refOf_u64 _ _)).mono ?_; rintro e w9 ⟨rfl, hH9, hO9⟩))
        go_roundg (x.items.length - (i + 1))
        case measure => omega
        case rel =>
          refine ⟨i + 1, rfl, by omega, _, _, _, (take_next HIT.out _).trans (congrArg (fun p => layItem p it) HS.out), ?_⟩
          simp only [HL.out]
          exact ⟨by first | rfl | trivial, by first | trivial | rfl, hH9, ((hO.trans hO6).trans hO8).trans hO9⟩
      | false =>
        have HL := Lib.hid (show s.layOp op it = ((s.begin 0 ⟨1, it.key, it.val, 0⟩).1.swap ((s.begin 0 ⟨1, it.key, it.val, 0⟩).1.wordAt (s.begin 0 ⟨1, it.key, it.val, 0⟩).2.1) 0 it.word, (s.begin 0 ⟨1, it.key, it.val, 0⟩).2.1) by unfold St.layOp; rw [if_neg (by rw [hag]; decide)])
        rw [hag] at n4
        clear hag
        have hcf : (⟨1, it.key, it.val, 0⟩ : GCall).fits := ⟨HFT.out.1.1, HFT.out.1.2, HFT.out.2.1.1, HFT.out.2.1.2⟩
        have HCF := Lib.hid hcf
        clear hcf
        have hgw : g < wr.heap.size := Nat.lt_of_lt_of_le hgl hO.size
        have hnb : ¬ Own k k.bw := hH.ne_w
        go_wp2_with fail
        go_region_held3 (fun w' => w'.cell? ⟨k.bw, 6, none⟩ = some (.pointer (some ⟨k.bb, 0, none⟩)) ∧ w'.cell? ⟨g, i * 5, none⟩ = some (.int .u64 it.key) ∧ w'.cell? ⟨g, i * 5 + 1, none⟩ = some (.int .u64 it.val))
          (first
            | go_keep
            | (refine ⟨?_, ?_, ?_⟩ <;> (rw [hOb.cell (by first | exact gl | exact hgw) (by first | exact hnb | exact hgo)]; assumption)))
          ((go_at_call 30; refine (begin_any 0 ⟨1, it.key, it.val, 0⟩ _ hH.drew HCF.out).mono ?_; rintro e wb ⟨rfl, hHb, hOb⟩))
        obtain ⟨_, b5, b6, bl⟩ := hHb.wfacts
        obtain ⟨p0, p1, p2, p3, p4⟩ := row_item HR5.out (hO.drew.trans hOb) hgo HIT.out
        go_wp2_with (first
          | (go_at_call 12; refine (wturn_any _ _ _ _ hHb HFT.out.2.2).mono ?_; rintro e wt ⟨rfl, hHt, hOt0⟩; have hOt := (hO.drew.trans hOb).trans hOt0; obtain ⟨_, t5, t6, tl⟩ := hHt.wfacts)
          | (go_at_call 31; refine (make_any 0 (s.begin 0 ⟨1, it.key, it.val, 0⟩).2.1 _ hHt).mono ?_; rintro e w6 ⟨rfl, hH6, hO6⟩; obtain ⟨_, f5, f6, fl⟩ := hH6.wfacts)
          | (go_at_call 32; refine (peek_any at_ _ hH6.cells).mono ?_; rintro e w7 ⟨rfl, rfl⟩)
          | (go_at_call 35; refine (rmarked_any _ _ (peek_range hH6.ok at_).1 (peek_range hH6.ok at_).2).mono ?_; rintro e w7 ⟨rfl, rfl⟩)
          | (go_at_call 34; refine (rpack_any _ _ _).mono ?_; rintro e w7 ⟨rfl, rfl⟩)
          | (go_at_call 33; refine (wset_any _ _ w6 hH6 (refOf_u64 _ _)).mono ?_; rintro e w8 ⟨rfl, hH8, hO8⟩; obtain ⟨m0, m1, m2, m3, m4⟩ := row_item HR5.out ((hOt.trans hO6).trans hO8) hgo HIT.out)
          | (go_at_call 33; refine (wset_any _ _ w8 hH8 (refOf_u64 _ _)).mono ?_; rintro e w9 ⟨rfl, hH9, hO9⟩))
        go_roundg (x.items.length - (i + 1))
        case measure => omega
        case rel =>
          refine ⟨i + 1, rfl, by omega, _, _, _, (take_next HIT.out _).trans (congrArg (fun p => layItem p it) HS.out), ?_⟩
          simp only [HL.out]
          exact ⟨by first | rfl | trivial, by first | trivial | rfl, hH9, ((hOt.trans hO6).trans hO8).trans hO9⟩
    · have e : i = x.items.length := by omega
      rw [e, ← sorted_len, List.take_length] at hs
      have HS := Lib.hid (show (St.new x.conf).layItems x.sorted = (s, at_, op) from hs)
      clear hs e
      have HOs := Lib.hid hO
      have HHs := Lib.hid hH
      have HL := Lib.hid (show x.lay = s.layCalls x.calls by unfold Scene.lay; rw [HS.out])
      clear hO hH
      go_wp2_with fail
      go_loopg [14] x.calls.length (fun gg v14 wc => ∃ j : Nat, v14 = .int .i64 j ∧ j + gg = x.calls.length ∧ Holds k (s.layCalls (x.calls.take j)) wc ∧ Only (Own k) w5 wc)
      case atStart => exact ⟨0, rfl, by omega, HHs.out, HOs.out⟩
      case round =>
        obtain ⟨j, rfl, hj, hH, hO⟩ := hrel
        have d2 : wr.cell? ⟨w.heap.size, 2, none⟩ = some (.slice ca x.calls.length cc) := by rw [hO.cell lw5 hnw]; exact c2
        have lwr : w.heap.size < wr.heap.size := Nat.lt_of_lt_of_le lw5 hO.size
        by_cases hlt : j < x.calls.length
        · obtain ⟨it, hit⟩ : ∃ it, x.calls[j]? = some it := ⟨_, List.getElem?_eq_getElem hlt⟩
          have hBr : Below w.heap.size w wr := HB5.out.trans (hO.below (by omega) fun i hi hn => by have := HK.out i (.inr (.inr hn)); omega)
          obtain ⟨b, o, rfl, lb, n0, n1, n2, n3⟩ := call_read (HC.out.below hBr) hit
          have hbo : ¬ Own k b := fun e => by
            have := HK.out b (.inr (.inr e))
            obtain ⟨b', o', he, hlt', _⟩ := call_read HC.out hit
            injection he with he; injection he with he1 he2; omega
          have HIT := Lib.hid hit
          have HFT := Lib.hid (HX.out.calls it (List.mem_of_getElem? hit))
          clear hit
          obtain ⟨_, g5, g6, gl⟩ := hH.wfacts
          have hnb : ¬ Own k k.bw := hH.ne_w
          go_wp2_with fail
          go_region_held3 (fun w' => w'.cell? ⟨k.bw, 6, none⟩ = some (.pointer (some ⟨k.bb, 0, none⟩)) ∧ w'.cell? ⟨w.heap.size, 2, none⟩ = some (.slice (some ⟨b, o, none⟩) x.calls.length cc) ∧ w'.cell? ⟨b, o + j * 4, none⟩ = some (.int .i64 it.kind) ∧ w'.cell? ⟨b, o + j * 4 + 1, none⟩ = some (.int .u64 it.key) ∧ w'.cell? ⟨b, o + j * 4 + 2, none⟩ = some (.int .u64 it.val) ∧ w'.cell? ⟨b, o + j * 4 + 3, none⟩ = some (.int .i64 it.limit))
            (first
              | go_keep
              | (refine ⟨?_, ?_, ?_, ?_, ?_, ?_⟩ <;> (rw [hOb.cell (by first | exact gl | exact lwr | exact lb) (by first | exact hnb | exact hnw | exact hbo)]; assumption)))
            ((go_at_call 30; refine (begin_any 2 it _ hH.drew HFT.out).mono ?_; rintro e wb ⟨rfl, hHb, hOb⟩))
          go_wp2_with fail
          go_roundg (x.calls.length - (j + 1))
          case measure => omega
          case rel =>
            refine ⟨j + 1, rfl, by omega, ?_, hO.drew.trans hOb⟩
            rw [calls_next HIT.out]
            exact hHb
        · have e : j = x.calls.length := by omega
          rw [e, List.take_length] at hH
          have HH := Lib.hid hH
          clear hH e
          go_wp2_with fail
          go_ret
          refine ⟨k, rfl, by rw [HL.out]; exact HH.out, fun i hi => Nat.le_of_lt (HK.out i hi), HB5.out.trans (hO.below (by omega) fun i hi hn => by have := HK.out i (.inr (.inr hn)); omega)⟩

end Go.Proofs.Ytccmjljlfgbicaa

/- Contract of awake (chapter 09). -/
namespace Go.Proofs.Ytccmjljlfgbicaa
open Go.ChangeShapes Go.WideShapes Go.ChangeAt Go.RowKit

def awScene09 : Scene := ⟨0, [⟨4, 9, 1, false, false⟩, ⟨2, 0, 0, false, false⟩], []⟩
theorem aw09_fits : awScene09.fits := by
  refine ⟨by decide, ?_, ?_⟩
  · intro i hi
    simp only [awScene09, List.mem_cons, List.not_mem_nil, or_false] at hi
    rcases hi with rfl | rfl
    all_goals (unfold GItem.fits; decide)
  · intro c hc; cases hc
set_option maxRecDepth 100000 in
theorem aw09_pure : awScene09.lay.chain 0 = [2, 3] ∧ awScene09.lay.prs = [(4, 9)] ∧ awScene09.lay.sound = true ∧ (awScene09.lay.chain 1).length = 0 ∧ awScene09.lay.c.buckets = 1 := by decide +kernel

set_option maxRecDepth 100000 in
set_option maxHeartbeats 2000000 in
theorem awake09_any (w : World) : Calls Try.prog 21 #[] w fun e w' => e = .returned (.bool true) ∧ Below w.heap.size w w' := by
  have HP := Lib.hid aw09_pure
  generalize hsc : awScene09.lay = s at HP
  have HS := Lib.hid hsc
  clear hsc
  have hlay := fun w v ia ca ic cc h => lay09_any (x := awScene09) (v := v) (ia := ia) (ca := ca) (ic := ic) (cc := cc) w aw09_fits (by decide) (by decide) h
  rw [HS.out] at hlay
  have HLAY := Lib.hid hlay
  clear hlay
  go_enter Try.func21, Try.ntmps21
  go_wp2_with (first
    | (go_at_call 26; refine (chain_any 1 w4 H4.out).mono ?_; rintro e w5 ⟨v5, rfl, hR5, hb5⟩
       obtain ⟨a5, c5, rfl, -⟩ := row_cells (N := fun _ => True) hR5 (fun _ _ => trivial)
       rw [HP.out.2.2.2.1])
    | (go_at_call 24; refine (lSound_any w3 H3.out).mono ?_; rintro e w4 ⟨rfl, hb4⟩; rw [HP.out.2.2.1]
       have H4 := Lib.hid (H3.out.below hb4))
    | (go_at_call 23; refine (lpairs_any w2 H2.out HP.out.2.2.2.2 (by rw [HP.out.1]; decide)).mono ?_; rintro e w3 ⟨v3, rfl, hR3, hb3⟩
       have P3 := PairsIn.of_row (N := fun _ => True) hR3 (fun _ _ => trivial)
       obtain ⟨a3, c3, rfl⟩ := P3.form
       rw [HP.out.2.1] at P3 ⊢
       obtain ⟨b3, o3, rfl, -, p0, p1⟩ := P3.at_ (i := 0) rfl
       rw [Nat.zero_mul, Nat.add_zero] at p0 p1
       have H3 := Lib.hid (H2.out.below hb3)
       have r0 : w3.cell? ⟨gl, 0, none⟩ = some (.int .i64 2) := by rw [hb3.cell (World.block_lt_of_cell? _ _ t0)]; exact t0
       have r1 : w3.cell? ⟨gl, 1, none⟩ = some (.int .i64 3) := by rw [hb3.cell (World.block_lt_of_cell? _ _ t1)]; exact t1)
    | (go_at_call 26; refine (chain_any 0 w1 hH).mono ?_; rintro e w2 ⟨v2, rfl, hR2, hb2⟩
       obtain ⟨a2, c2, rfl, hRA⟩ := row_cells (N := fun _ => True) hR2 (fun _ _ => trivial)
       rw [HP.out.1] at hRA ⊢
       obtain ⟨gl, rfl, -, t0⟩ := hRA 0 2 rfl
       obtain ⟨gl', e1, -, t1⟩ := hRA 1 3 rfl
       injection e1 with e1
       injection e1 with e1
       subst e1
       have H2 := Lib.hid (hH.below hb2))
    | (go_at_call 22; refine (HLAY.out _ _ _ _ _ _ (sceneAt_built w 0 awScene09.items 74)).mono ?_; rintro e w1 ⟨k, rfl, hH, hK, hb1⟩))
  go_ret
  have z1 := hb1.size
  have z2 := hb2.size
  have z3 := hb3.size
  have z4 := hb4.size
  exact ⟨rfl, ((Below.refl _ w).alloc (Nat.le_refl _) _).trans (((((hb1.trans (hb2.mono z1)).trans (hb3.mono (by omega))).trans (hb4.mono (by omega))).trans (hb5.mono (by omega))).mono (by simp))⟩
end Go.Proofs.Ytccmjljlfgbicaa

/- Contract of look.Pairs, where no bucket has a node; of one that is nil. -/
namespace Go.Proofs.Ytccmjljlfgbicaa
open Go.ChangeShapes Go.WideShapes Go.ChangeAt Go.RowKit

theorem takenAll_below {B : Nat} {a : World} : ∀ (rs : List Nat) (w : World), Below B a w → (∀ r ∈ rs, B ≤ r) → Below B a (takenAll rs w)
  | [], _, h, _ => h
  | r :: rs, _, h, hr => takenAll_below rs _ (taken_below h (hr r (.head _))) fun x hx => hr x (.tail _ hx)
/-- What is known at the head of each round. -/
structure EInv (k : Blks) (w0 : World) (rs : List Nat) (w : World) : Prop where
  below : Below w0.heap.size w0 w
  ptr : w.cell? ⟨w0.heap.size, 0, none⟩ = some (.pointer (some ⟨k.bw, 0, none⟩))
  out : At w (w0.heap.size + 1) 36 #[.slice none 0 0]
  marks : Marks rs w
  low : ∀ r ∈ rs, w0.heap.size ≤ r
theorem EInv.still {k : Blks} {w0 w w' : World} {rs : List Nat} (h : EInv k w0 rs w) (hb : Below w.heap.size w w') : EInv k w0 rs w' :=
  ⟨h.below.trans (hb.mono h.below.size), by rw [hb.cell (World.block_lt_of_cell? _ _ h.ptr)]; exact h.ptr, h.out.below' hb, ⟨h.marks.1, fun r hr => heap_below (h.marks.2 r hr) hb⟩, h.low⟩
theorem EInv.more {k : Blks} {w0 w : World} {rs : List Nat} {r : Nat} (h : EInv k w0 rs w) (hm : w.heap[r]? = some (.deferred (some []))) (hr : r ∉ rs) (hl : w0.heap.size ≤ r) : EInv k w0 (r :: rs) w :=
  ⟨h.below, h.ptr, h.out, ⟨List.nodup_cons.2 ⟨hr, h.marks.1⟩, fun x hx => by
    rcases List.mem_cons.1 hx with rfl | hx
    · exact hm
    · exact h.marks.2 x hx⟩, fun x hx => by
    rcases List.mem_cons.1 hx with rfl | hx
    · exact hl
    · exact h.low x hx⟩

set_option maxRecDepth 100000 in
set_option maxHeartbeats 4000000 in
theorem lpairs_empty {k : Blks} {s : St} (w : World) (h : Holds k s w) (he : ∀ b, s.chain b = []) :
    Calls Try.prog 23 #[.pointer (some ⟨k.bw, 0, none⟩)] w fun e w' => e = .returned (.slice none 0 0) ∧ Below w.heap.size w w' := by
  obtain ⟨⟨-, g1, -, -, -⟩, -, -, gl⟩ := h.wfacts
  have hmb := may_bounds h.ok.may
  obtain ⟨n, hn⟩ : ∃ n : Nat, s.c.buckets = n := ⟨s.c.buckets.toNat, by omega⟩
  rw [hn] at g1
  have HE := Lib.hid he
  have hn9 : n ≤ 100000 := by omega
  have H := Lib.hid h
  have A1 := (At.new w 32 #[.pointer (some ⟨k.bw, 0, none⟩)]).alloc (.cells #[.slice none 0 0] 36)
  have A3 := At.new1 w (.cells #[.pointer (some ⟨k.bw, 0, none⟩)] 32) 36 #[.slice none 0 0]
  have D2 := below_twice w (.cells #[.pointer (some ⟨k.bw, 0, none⟩)] 32) (.cells #[.slice none 0 0] 36)
  have z2 : ((w.alloc (.cells #[.pointer (some ⟨k.bw, 0, none⟩)] 32)).alloc (.cells #[.slice none 0 0] 36)).heap.size = w.heap.size + 1 + 1 := by simp
  clear h he hn hmb
  refine callsC_of_wp Try.func23 rfl ?_
  simp only [Try.ntmps23, List.size_toArray, List.length_cons, List.length_nil, Nat.reduceAdd, Nat.reduceSub, Array.replicate_succ, Array.replicate_zero, List.push_toArray, List.append_toArray, List.nil_append, List.cons_append]
  go_upto_region 2 with fail
  generalize (w.alloc (.cells #[.pointer (some ⟨k.bw, 0, none⟩)] 32)).alloc (.cells #[.slice none 0 0] 36) = w2 at *
  have c1 : w2.cell? ⟨w.heap.size, 0, none⟩ = some (.pointer (some ⟨k.bw, 0, none⟩)) := A1.cell 0
  go_upto_region 5 with (refine wpl_op (by rfl) (op_makeSet 101 rfl .i64 fun hM0 => ?_))
  have A4 := At.new (w2.alloc (.map #[] 0)) 101 #[.map (some (w.heap.size + 1 + 1))]
  have D24 : Below w2.heap.size w2 ((w2.alloc (.map #[] 0)).alloc (.cells #[.map (some (w.heap.size + 1 + 1))] 101)) := below_twice w2 _ _
  have BM : SetAt ((w2.alloc (.map #[] 0)).alloc (.cells #[.map (some (w.heap.size + 1 + 1))] 101)) w2.heap.size .i64 [] := hM0.below ((Below.refl _ _).alloc (Nat.le_refl _) _)
  rw [World.size_alloc] at A4
  generalize (w2.alloc (.map #[] 0)).alloc (.cells #[.map (some (w.heap.size + 1 + 1))] 101) = w4 at *
  have B1 := A1.below' D24
  have B3 := A3.below' D24
  have D4 := D2.trans (D24.mono D2.size)
  have l4 := A4.lt
  rw [z2] at A4 BM l4
  have H4 := Lib.hid (H.out.below D4)
  have c1 : w4.cell? ⟨w.heap.size, 0, none⟩ = some (.pointer (some ⟨k.bw, 0, none⟩)) := B1.cell 0
  have g1 : w4.cell? ⟨k.bw, 1, none⟩ = some (.int .i64 n) := by rw [D4.cell gl]; exact g1
  have gl4 : k.bw < w4.heap.size := Nat.lt_of_lt_of_le gl D4.size
  clear A1 A3 D2 hM0 D24
  go_wp2_with fail
  have hst : EInv k w [] w4 := ⟨D4, c1, B3, ⟨List.nodup_nil, by simp⟩, by simp⟩
  clear B1 B3 D4 c1 A4 BM H4 gl4 l4
  refine wp_loop_ghost_k (fun g a wr => ∃ (u5 u20 u21 u22 u23 u24 u57 : Value) (rs : List Nat) (i : Nat), a = ⟨#[.pointer (some ⟨k.bw, 0, none⟩), .pointer (some ⟨w.heap.size, 0, none⟩), .slice none 0 0, .pointer (some ⟨w.heap.size + 1, 0, none⟩), .pointer (some ⟨w.heap.size + 1 + 1 + 1, 0, none⟩), u5, undef, undef, undef, undef, .pointer (some ⟨k.bw, 0, none⟩), .bool false, undef, .map (some (w.heap.size + 1 + 1)), .pointer (some ⟨k.bw, 0, none⟩), .pointer (some ⟨k.bw, 0, none⟩), .pointer (some ⟨k.bw, 0, none⟩), .pointer (some ⟨k.bw, 1, none⟩), .int .i64 n, .int .i64 i, u20, u21, u22, u23, u24, undef, undef, undef, undef, undef, undef, undef, undef, undef, undef, undef, undef, undef, undef, undef, undef, undef, undef, undef, undef, undef, undef, undef, undef, undef, undef, undef, undef, undef, undef, undef, undef, u57, undef, undef, undef], rs.map markOfLoop⟩ ∧ i + g = n ∧ EInv k w rs wr) n ⟨undef, undef, undef, undef, undef, undef, undef, [], 0, rfl, by omega, hst⟩ ?_
  rintro gk a wr ⟨u5, u20, u21, u22, u23, u24, u57, rs, i, rfl, hig, hC⟩ J K hJ hK
  clear hst
  dsimp only
  have HC := Lib.hid hC
  have HJ := Lib.hid hJ
  have HK := Lib.hid hK
  have c1 := hC.ptr
  have c3 : wr.cell? ⟨w.heap.size + 1, 0, none⟩ = some (.slice none 0 0) := hC.out.cell 0
  clear hC hJ hK
  by_cases hlt : i < n
  · go_wp2_with (go_at_call 56; refine (nodes_any k i wr).mono ?_; rintro e w5 ⟨rfl, q0, q1, hb5⟩)
    refine wp_rangeFunc_new (g := 105) rfl Try.func105 rfl rfl ?_
    intro fn W1 L hL f1 f2 f3
    have hs : L.state = .ready := by rw [hL]; rfl
    have hp : L.pending = none := by rw [hL]; rfl
    have HL := Lib.hid hL
    clear hL
    have z5 := hb5.size
    have D5 : Below wr.heap.size wr W1 := hb5.trans (f3.mono hb5.size)
    have zc0 := World.block_lt_of_cell? w5 _ q0
    have zc1 := World.block_lt_of_cell? w5 _ q1
    have k0 : W1.cell? ⟨wr.heap.size, 0, none⟩ = some (.pointer (some ⟨k.bw, 0, none⟩)) := by rw [f3.cell zc0]; exact q0
    have k1 : W1.cell? ⟨wr.heap.size + 1, 0, none⟩ = some (.int .i64 i) := by rw [f3.cell zc1]; exact q1
    have HHW := Lib.hid (H.out.below (HC.out.below.trans (D5.mono HC.out.below.size)))
    refine (nodes1_any (k := k) (s := s) (i : Int) wr.heap.size (wr.heap.size + 1) (w5.heap.size + 1) W1 (fun _ w' => Below W1.heap.size W1 w') (fun _ => False) ?hI ?hB ?hY ?h0 ?q1).mono ?_
    case hI => exact fun j w' hb => ⟨HHW.out.below hb, by rw [hb.cell (World.block_lt_of_cell? _ _ k0)]; exact k0⟩
    case hB => exact fun j w1 w2 h1 h2 => h1.trans (h2.mono h1.size)
    case hY =>
      intro j m w' hm
      rw [HE.out] at hm
      cases hm
    case h0 => exact Below.refl _ _
    case q1 => exact k1
    rintro e w' ⟨rfl, hF | hB'⟩
    · exact hF.elim
    refine ⟨_, rfl, L, heap_below f1 hB', (by rw [hs]; intro e; cases e), ?_⟩
    have HPE := Lib.hid hp
    have zl := f1.lt
    have mk := (putLoop_heap w' (w5.heap.size + 1) { L with state := .exhausted } w5.heap.size (by omega)).trans (heap_below f2 hB')
    have DX : Below wr.heap.size wr (putLoop w' (w5.heap.size + 1) { L with state := .exhausted }) := putLoop_below (D5.trans (hB'.mono D5.size)) (by omega) _
    have hnr : w5.heap.size ∉ rs := fun hr => by
      have := HC.out.marks.2 _ hr
      have h2 : w5.heap.size < wr.heap.size := by
        rcases Nat.lt_or_ge w5.heap.size wr.heap.size with q | q
        · exact q
        · rw [Array.getElem?_eq_none q] at this; cases this
      omega
    have hlow : w.heap.size ≤ w5.heap.size := by have := HC.out.below.size; omega
    clear hp hs k0 k1 q0 q1 D5 f1 f2 f3 hB'
    generalize putLoop w' (w5.heap.size + 1) { L with state := .exhausted } = W2 at *
    have N2 : EInv k w (w5.heap.size :: rs) W2 := (HC.out.still DX).more mk hnr hlow
    have HN := Lib.hid N2
    clear N2 mk DX
    rw [HPE.out]
    dsimp only
    go_wp2_with fail
    exact HK.out _ _ (Handed.intro (gk - 1) (by omega) (HJ.out _ _ _ ⟨_, _, _, _, _, _, _, w5.heap.size :: rs, i + 1, rfl, by omega, HN.out⟩))
  · go_wp2_with (go_at_call 60; refine (stable_nil wr).mono ?_; rintro e wT ⟨rfl, rfl⟩)
    refine ⟨rs, rfl, HC.out.marks, _, results_tmp rfl _ _ _, rfl, takenAll_below rs wr HC.out.below HC.out.low⟩
end Go.Proofs.Ytccmjljlfgbicaa

/- Contracts: where the document puts the first head; look.Pairs of no world; the state of a new world: no chain has a node, so it is sound. -/
namespace Go.Proofs.Ytccmjljlfgbicaa
open Go.ChangeShapes Go.WideShapes Go.ChangeAt Go.RowKit

set_option maxHeartbeats 1000000 in
theorem hmayb_yes (b : Int) (w : World) (h : mayB b = true) :
    Calls Try.prog 131 #[.int .i64 b] w fun e w' => e = .returned (.bool true) ∧ w = w' := by
  rcases mayB_cases h with rfl | rfl | rfl | rfl | rfl | rfl | rfl
  all_goals
    go_enter Try.func131, Try.ntmps131
    go_wp2
    go_ret
    exact ⟨rfl, rfl⟩
theorem may_buckets {c : Conf} (h : c.may = true) : mayB c.buckets = true := by
  simp only [Conf.may, Bool.and_eq_true] at h
  exact h.2.1
set_option maxHeartbeats 1000000 in
theorem hmay_yes (c : Conf) (w : World) (hm : c.may = true) :
    Calls Try.prog 111 #[c.val] w fun e w' => e = .returned (.int .i64 0) ∧ Below w.heap.size w w' := by
  obtain ⟨a1, a2, b1, b2, i1, i2, f1, f2, c1, c2⟩ := may_bounds hm
  have hb := Lib.hid (may_buckets hm)
  clear hm
  go_enter Try.func111, Try.ntmps111
  go_wp2_with (go_at_call 131; refine (hmayb_yes _ _ hb.out).mono ?_; rintro e w1 ⟨rfl, rfl⟩)
  go_ret
  exact ⟨rfl, (Below.refl _ _).alloc (Nat.le_refl _) _⟩
set_option maxHeartbeats 1000000 in
theorem hin_yes (c : Conf) (w : World) (hm : c.may = true) :
    Calls Try.prog 68 #[c.val, .int .i64 0, .int .i64 c.buckets] w fun e w' => e = .returned (.bool true) ∧ Below w.heap.size w w' := by
  have hb0 : 0 < c.buckets := by have := may_bounds hm; omega
  have HM := Lib.hid hm
  clear hm
  go_enter Try.func68, Try.ntmps68
  go_wp2_with (go_at_call 111; refine (hmay_yes c _ HM.out).mono ?_; rintro e w1 ⟨rfl, hb⟩)
  go_ret
  exact ⟨ret_b (by simp), below_new hb⟩
set_option maxRecDepth 100000 in
set_option maxHeartbeats 1000000 in
theorem head_yes (c : Conf) (w : World) (hm : c.may = true) :
    Calls Try.prog 27 #[c.val, .int .i64 0] w fun e w' => e = .returned (.int .i64 1) ∧ Below w.heap.size w w' := by
  have HM := Lib.hid hm
  clear hm
  go_enter Try.func27, Try.ntmps27
  go_wp2_with (go_at_call 68; refine (hin_yes c _ HM.out).mono ?_; rintro e w3 ⟨rfl, hb3⟩)
  go_ret
  exact ⟨rfl, below_new hb3⟩

set_option maxRecDepth 100000 in
theorem lpairs_nil (w : World) : Calls Try.prog 23 #[.pointer none] w fun e w' => e = .returned (.slice none 0 0) ∧ Below w.heap.size w w' := by
  go_enter Try.func23, Try.ntmps23
  go_wp2_with fail
  go_ret
  exact ⟨rfl, below_twice _ _ _⟩

theorem new_peek (c : Conf) (p : Int) : (St.new c).peek p = 0 := by
  show peekL (List.replicate (c.nodes + c.ops + c.threads).toNat 0) p = 0
  unfold peekL
  split
  · rw [List.getD_eq_getElem?_getD, List.getElem?_replicate]
    split <;> rfl
  · rfl
theorem new_chain (c : Conf) (b : Int) : (St.new c).chain b = [] := by
  unfold St.chain
  split
  · rfl
  · cases (St.new c).c.nodes.toNat with
    | zero => rfl
    | succ n =>
      unfold St.behind
      rw [if_pos (by unfold St.follow; rw [new_peek]; rfl)]
theorem new_sound (c : Conf) : (St.new c).sound = true := by
  unfold St.sound St.soundTo
  rw [List.all_eq_true]
  intro b _
  unfold St.sound1
  rw [new_chain]
  rfl
end Go.Proofs.Ytccmjljlfgbicaa

/- LookNew, the walk. -/
namespace Go.Proofs.Ytccmjljlfgbicaa
open Go.ChangeShapes Go.WideShapes Go.ChangeAt Go.RowKit

set_option maxRecDepth 100000 in
set_option maxHeartbeats 4000000 in
theorem looknew_walk (c : Conf) (n : Int) (w : World) :
    Calls Try.prog 7 #[c.val, .int .i64 n] w fun e w' => e = .returned (.bool true) ∧ Below w.heap.size w w' := by
  have E0 := At.new w 57 c.cells
  have D0 : Below w.heap.size w (w.alloc (.cells c.cells 57)) := (Below.refl _ w).alloc (Nat.le_refl _) _
  cases hm : c.may with
  | false =>
    have HM := Lib.hid hm
    clear hm
    go_enter Try.func7, Try.ntmps7
    go_upto_region 1 with fail
    generalize w.alloc (.cells c.cells 57) = w0 at *
    go_wp2_with (first
      | (go_at_call 26; refine (chain_nil n w4).mono ?_; rintro e w5 ⟨rfl, rfl⟩)
      | (go_at_call 23; refine (lpairs_nil w3).mono ?_; rintro e w4 ⟨rfl, hb4⟩)
      | (go_at_call 24; refine (lSound_nil w2).mono ?_; rintro e w3 ⟨rfl, hb3⟩)
      | (go_at_call 25; refine (wnew_no c _ HM.out).mono ?_; rintro e w2 ⟨rfl, hb2⟩)
      | (refine wpl_ld rfl 57 _ rfl c.cells rfl _ (E0.below' hb1) Try.underlying57 rfl (by kernel_rfl) rfl ?_)
      | (go_at_call 21; refine (awake09_any _).mono ?_; rintro e w1 ⟨rfl, hb1⟩))
    go_ret
    exact ⟨rfl, D0.trans ((hb1.trans ((hb2.trans ((hb3.trans (hb4.mono hb3.size)).mono hb2.size)).mono hb1.size)).mono D0.size)⟩
  | true =>
    have HM := Lib.hid hm
    clear hm
    go_enter Try.func7, Try.ntmps7
    go_upto_region 1 with fail
    generalize w.alloc (.cells c.cells 57) = w0 at *
    go_wp2_with (first
      | (go_at_call 27; refine (head_yes c w5 HM.out).mono ?_; rintro e w6 ⟨rfl, hb6⟩)
      | (go_at_call 26; refine (chain_any n w4 ((hH.below hb3).below hb4)).mono ?_; rintro e w5 ⟨v5, rfl, hR5, hb5⟩
         rw [new_chain] at hR5
         obtain ⟨ao, vc, rfl, hao⟩ := row_any hR5
         have EE := ((((E0.below' hb1).below' hb2).below' hb3).below' hb4).below' hb5
         have k0 : w5.cell? ⟨w.heap.size, 0, none⟩ = some (.int .i64 c.threads) := EE.cell 0
         have k1 : w5.cell? ⟨w.heap.size, 1, none⟩ = some (.int .i64 c.buckets) := EE.cell 1
         have k2 : w5.cell? ⟨w.heap.size, 2, none⟩ = some (.int .i64 c.inserts) := EE.cell 2
         have k3 : w5.cell? ⟨w.heap.size, 3, none⟩ = some (.int .i64 c.fuel) := EE.cell 3
         have k4 : w5.cell? ⟨w.heap.size, 4, none⟩ = some (.int .i64 c.calls) := EE.cell 4)
      | (go_at_call 23; refine (lpairs_empty w3 (hH.below hb3) (new_chain c)).mono ?_; rintro e w4 ⟨rfl, hb4⟩)
      | (go_at_call 24; refine (lSound_any w2 hH).mono ?_; rintro e w3 ⟨rfl, hb3⟩; rw [new_sound])
      | (go_at_call 25; refine (wnew_yes c _ HM.out).mono ?_; rintro e w2 ⟨k, rfl, hH, -, hb2⟩)
      | (refine wpl_ld rfl 57 _ rfl c.cells rfl _ (E0.below' hb1) Try.underlying57 rfl (by kernel_rfl) rfl ?_)
      | (go_at_call 21; refine (awake09_any _).mono ?_; rintro e w1 ⟨rfl, hb1⟩))
    go_ret
    exact ⟨rfl, D0.trans ((hb1.trans ((hb2.trans ((hb3.trans ((hb4.trans ((hb5.trans (hb6.mono hb5.size)).mono hb4.size)).mono hb3.size)).mono hb2.size)).mono hb1.size)).mono D0.size)⟩
end Go.Proofs.Ytccmjljlfgbicaa

/- A layout that comes in: its cells. -/
namespace Go.Proofs.Ytccmjljlfgbicaa
open Go.Joins Go.ChangeShapes Go.WideShapes Go.ChangeAt Go.RowKit Go.Deep

theorem array5 {α : Type} {cs : Array α} (h : cs.size = 5) : ∃ c0 c1 c2 c3 c4, cs = #[c0, c1, c2, c3, c4] := by
  obtain ⟨l⟩ := cs
  match l, h with
  | [c0, c1, c2, c3, c4], _ => exact ⟨c0, c1, c2, c3, c4, rfl⟩
section
variable {H : Type} {enc : TypeId × Value → H} {w : World} {base : Nat} {spare : Nat → Bool} {held : Bool}
set_option maxRecDepth 100000 in
/-- A layout that comes in. -/
theorem open_conf {r : Reach} {b0 : Nat} {v : Value} {d : DataW H} {p : List MemPlace} (hv : Value.okWide Try.prog w r b0 57 v) (h : DataW.Trod enc Try.prog w base spare held 57 v d p) :
    ∃ c : Conf, v = c.val := by
  obtain ⟨cs, rfl, hsz, hg⟩ := open_aggN Try.underlying57 (by kernel_rfl) (by kernel_rfl) hv h
  obtain ⟨c0, c1, c2, c3, c4, rfl⟩ := array5 hsz
  obtain ⟨v0, y0, _, e0, t0⟩ := hg 0 _ rfl
  obtain ⟨v1, y1, _, e1, t1⟩ := hg 1 _ rfl
  obtain ⟨v2, y2, _, e2, t2⟩ := hg 2 _ rfl
  obtain ⟨v3, y3, _, e3, t3⟩ := hg 3 _ rfl
  obtain ⟨v4, y4, _, e4, t4⟩ := hg 4 _ rfl
  cases e0; cases e1; cases e2; cases e3; cases e4
  obtain ⟨n0, k0, _, w0⟩ := DataW.trod_int Try.underlying3 t0
  obtain ⟨n1, k1, _, w1⟩ := DataW.trod_int Try.underlying3 t1
  obtain ⟨n2, k2, _, w2⟩ := DataW.trod_int Try.underlying3 t2
  obtain ⟨n3, k3, _, w3⟩ := DataW.trod_int Try.underlying3 t3
  obtain ⟨n4, k4, _, w4⟩ := DataW.trod_int Try.underlying3 t4
  injection k0 with k0; injection k1 with k1; injection k2 with k2; injection k3 with k3; injection k4 with k4
  subst k0; subst k1; subst k2; subst k3; subst k4
  exact ⟨⟨n0, n1, n2, n3, n4⟩, rfl⟩
end
end Go.Proofs.Ytccmjljlfgbicaa

/- LookNew returns true for every layout and number: a new world, of any buckets that may be, is sound, and has nothing; one that is nil is not sound. No condition. -/
namespace Go.Proofs.Ytccmjljlfgbicaa.lookNew
open Go.ChangeShapes Go.WideShapes Go.ChangeAt Go.RowKit
set_option linter.unusedVariables false

theorem own : ownKnob Try.prog.godebug = none := by kernel_rfl
theorem laidOut : laidOutB Try.prog = true := by kernel_rfl

set_option maxRecDepth 100000 in
theorem lifted (os : Os) (started : os.Started) (H : Type) (enc : TypeId × Value → H) :
    ReturnsInHanded {} Try.checked os 7 .any (Rows.lookNewSpec.pre6 enc Try.prog Try.f7 Rows.lookNewRow.domain false) (Rows.lookNewSpec.post enc Try.prog Try.f7 false true false false) := by
  refine returnsInHanded_of_change (C := Try.checked) own started (by kernel_rfl) Try.func7
    (ChangeSpec.witness6 (enc := enc) (C := Try.checked) false ⟨#[], #[.agg #[.int .i64 0, .int .i64 0, .int .i64 0, .int .i64 0, .int .i64 0], .int .i64 0], []⟩ 12 (by kernel_rfl) (by kernel_rfl) (by kernel_rfl) (by kernel_rfl)) ?_
  intro W base args ds gs before hval0 hW hcnd _
  have hval : ∀ (j : Nat) t v, Try.f7.params[j]? = some t → args[j]? = some v → Value.okWide Try.prog W .any base t v := hval0
  have hW' := hW
  obtain ⟨p, q, hA0, hV, rfl, hfz, hnd⟩ := hW
  have hA : DataW.TrodAll enc Try.prog W 0 (fun _ => true) true Try.f7.params.toList args.toList ds p := hA0
  rw [Try.params7] at hA hval
  obtain ⟨v0, vs0, d0, ds0, p0, q0, hargs, rfl, rfl, h0, r0⟩ := trodAll_cons hA
  obtain ⟨v1, vs1, d1, ds1, p1, q1, rfl, rfl, rfl, h1, r1⟩ := trodAll_cons r0
  obtain ⟨rfl, rfl, rfl⟩ := trodAll_nil r1
  obtain rfl : args = #[v0, v1] := by cases args; simp_all
  obtain ⟨rfl, rfl⟩ := trodVars_none hV
  obtain ⟨c0, rfl⟩ := open_conf (hval 0 _ v0 rfl rfl) h0
  obtain ⟨a1, rfl, rfl, rfl, w1⟩ := open_int Try.underlying3 (hval 1 _ v1 rfl rfl) h1
  clear hA0 hval0
  simp only [List.append_nil] at hW'
  refine (looknew_walk c0 a1 W).mono fun e W' ⟨he, hb⟩ => ?_
  subst he
  have hlt : ∀ y ∈ p0, y.block < W.heap.size := fun y hy => by simpa using hW'.lt y (by simpa using hy)
  exact ⟨_, rfl, post_new hW' hb (fun _ _ _ => trodAll_cons_mk (shut_bool Try.underlying4 _) trodAll_mk0)
    (fun sp hsp => by
      have := (trodAll_cons_mk (WideElems.Trod_stays laidOut (by kernel_rfl) (of_decide_eq_true (by kernel_rfl)) h0 (fun y hy => hb.same (hlt y hy)) (fun y hy => hsp y hy)) (trodAll_cons_mk (shut_int Try.underlying3 w1) trodAll_mk0))
      simp only [List.append_nil] at this
      exact this)
    (fun _ => rfl) (ok_one (by kernel_rfl) rfl (okWide_bool_mk Try.underlying4 _))⟩

theorem over : Rows.lookNewRow.holds Try.pinned (OpenSpec.ofChange Rows.lookNewSpec) :=
  OpenClaim.holds_of_wide 7 Try.f7 rfl rfl rfl rfl rfl rfl rfl ⟨rfl, rfl, rfl, rfl, rfl⟩ rfl rfl rfl rfl rfl (by kernel_rfl) Try.func7 (by kernel_rfl)
    (of_decide_eq_true (by kernel_rfl)) (by unfold Func.isWrapper; first | (rw [if_pos (by decide +kernel)]; kernel_rfl) | (rw [if_neg (by decide +kernel)]; exact ⟨rfl, rfl⟩))
    (fun os started H enc _ => lifted os started H enc)

theorem proved : Rows.LookNewSaid :=
  over
#print axioms proved
end Go.Proofs.Ytccmjljlfgbicaa.lookNew

