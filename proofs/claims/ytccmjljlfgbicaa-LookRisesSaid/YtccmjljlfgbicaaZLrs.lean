/- A pair of a list in memory. Plain. -/
import Derived.Test.YtccmjljlfgbicaaScn
import Derived.Test.YtccmjljlfgbicaaSeq
import Derived.Test.YtccmjljlfgbicaaLayA
import Derived.Test.YtccmjljlfgbicaaWorld2
import Derived.Test.YtccmjljlfgbicaaLkT
import Derived.Test.YtccmjljlfgbicaaLkQ
import Derived.Test.YtccmjljlfgbicaaZAw
import Derived.Test.YtccmjljlfgbicaaLaidK
import Derived.Test.YtccmjljlfgbicaaLook
import Derived.Test.YtccmjljlfgbicaaStW
import Derived.Test.YtccmjljlfgbicaaRegQ
import Derived.Test.YtccmjljlfgbicaaOpen
import Derived.WalkKit
import Derived.ProofKit
import Derived.OpenShut
namespace Go.Proofs.Ytccmjljlfgbicaa
open Go.ChangeShapes Go.WideShapes Go.ChangeAt Go.RowKit

theorem PairsIn.at_ {w : World} {N : Nat → Prop} {ao : Option Addr} {n cap : Nat} {l : List (Int × Int)} {i : Nat} {p : Int × Int} (h : PairsIn w N (.slice ao n cap) l) (hi : l[i]? = some p) :
    ∃ b o, ao = some ⟨b, o, none⟩ ∧ N b ∧ w.cell? ⟨b, o + i * 2, none⟩ = some (.int .u64 p.1) ∧ w.cell? ⟨b, o + i * 2 + 1, none⟩ = some (.int .u64 p.2) := by
  rcases h with ⟨rfl, _⟩ | ⟨b, o, c, e, _, _, h4, h5⟩
  · cases hi
  · injection e with e1 e2 e3
    obtain ⟨g1, g2⟩ := pairsV_get hi
    exact ⟨b, o, e1, h4, h5 _ _ g1, by rw [Nat.add_assoc]; exact h5 _ _ g2⟩
end Go.Proofs.Ytccmjljlfgbicaa

/- A row of numbers in memory. Plain. -/
namespace Go.Proofs.Ytccmjljlfgbicaa
open Go.ChangeShapes Go.WideShapes Go.ChangeAt Go.RowKit

/-- A row of numbers in memory. -/
def RowAt (N : Nat → Prop) (ao : Option Addr) (l : List Int) (w : World) : Prop := ∀ (t : Nat) (n : Int), l[t]? = some n → ∃ gl, ao = some ⟨gl, 0, none⟩ ∧ N gl ∧ w.cell? ⟨gl, t, none⟩ = some (.int .i64 n)
theorem row_cells {w : World} {base : Nat} {v : Value} {l : List Int} {N : Nat → Prop} (h : w.ownsRow base 3 1 v l.length (l.map (.int .i64))) (hN : ∀ g, base ≤ g → N g) : ∃ ao cap, v = .slice ao l.length cap ∧ RowAt N ao l w := by
  rcases h.2 with ⟨rfl, h2⟩ | ⟨g, cap, cur, rfl, h2, h3, h4, h5, h6, h7⟩
  · have e : l = [] := List.length_eq_zero_iff.1 (by omega)
    subst e
    exact ⟨none, 0, rfl, fun t n ht => by cases ht⟩
  · have hA : At w g 3 cur := h3
    refine ⟨some ⟨g, 0, none⟩, cap, rfl, fun t n ht => ⟨g, rfl, hN g h2, ?_⟩⟩
    have hm : (l.map (Value.int .i64))[t]? = some (.int .i64 n) := by simp [ht]
    rw [hA.cell, ← Array.getElem?_toList]
    rw [← h7, List.getElem?_take] at hm
    split at hm
    · exact hm
    · cases hm

end Go.Proofs.Ytccmjljlfgbicaa

/- Contract of lay: the world of a scene. -/
namespace Go.Proofs.Ytccmjljlfgbicaa
open Go.ChangeShapes Go.WideShapes Go.ChangeAt Go.RowKit

set_option maxRecDepth 100000 in
set_option maxHeartbeats 4000000 in
theorem lay09_any {x : Scene} {v : Value} {ia ca : Option Addr} {ic cc : Nat} (w : World) (hx : x.fits) (hlen : x.items.length ≤ 12) (hcl : x.calls.length ≤ 6) (hS : SceneAt w v x ia ca ic cc) :
    Calls Try.prog 22 #[v] w fun e w' => ∃ k : Blks, e = .returned (.pointer (some ⟨k.bw, 0, none⟩)) ∧ Holds k x.lay w' ∧ (∀ i, (i = k.bw ∨ i = k.bb ∨ Own k i) → w.heap.size ≤ i) ∧ Below w.heap.size w w' := by
  obtain ⟨rfl, hI, hC⟩ := hS
  have HX := Lib.hid hx
  have HC := Lib.hid hC
  have HI := Lib.hid hI
  have HF := Lib.hid hx.fuel
  clear hx hC hI
  go_enter Try.func22, Try.ntmps22
  go_wp2_with (first
    | (go_at_call 28; refine (sconf_any _ HF.out).mono ?_; rintro e w1 ⟨rfl, hb1⟩)
    | (go_at_call 25; refine (wnew_yes x.conf w1 (conf_may HF.out)).mono ?_; rintro e w2 ⟨k, rfl, hH, hK, hb2⟩; obtain ⟨c0, c1, c2⟩ := scene_cells (hb1.trans (hb2.mono hb1.size)))
    | (go_at_call 29; refine (sorted_any w2 (HI.out.below (((Below.refl _ w).alloc (Nat.le_refl _) _).trans ((hb1.trans (hb2.mono hb1.size)).mono (by simp)))) hlen).mono ?_; rintro e w5 ⟨v5, rfl, hR5, hb5⟩; obtain ⟨ao, vc, rfl, hao⟩ := row_any hR5))
  have hB5 : Below w.heap.size w w5 := ((Below.refl _ w).alloc (Nat.le_refl _) _).trans ((hb1.trans ((hb2.mono hb1.size).trans (hb5.mono (by have := hb1.size; have := hb2.size; omega)))).mono (by simp))
  have hH5 := hH.below hb5
  have hsz : w.heap.size < w1.heap.size := by have := hb1.size; simp at this; omega
  have hK' : ∀ i, (i = k.bw ∨ i = k.bb ∨ Own k i) → w.heap.size < i := fun i hi => by have := hK i hi; omega
  have hao' : 0 < x.items.length → ∃ g, ao = some ⟨g, 0, none⟩ ∧ ¬ Own k g ∧ g < w5.heap.size := fun h0 => by
    obtain ⟨g, h1, h2, h3⟩ := hao h0
    exact ⟨g, h1, hH.fresh h2, h3⟩
  have hnw : ¬ Own k w.heap.size := fun e => by have := hK' _ (.inr (.inr e)); omega
  have HB5 := Lib.hid hB5
  have HK := Lib.hid hK'
  have HR5 := Lib.hid hR5
  have HAO := Lib.hid hao'
  have lw5 : w.heap.size < w5.heap.size := by have := hb2.size; have := hb5.size; omega
  obtain ⟨c0, c1, c2⟩ := scene_cells (hb1.trans ((hb2.mono hb1.size).trans (hb5.mono (by have := hb1.size; have := hb2.size; omega))))
  clear hB5 hK' hK hR5 hao hao' hb1 hb2 hb5 hH
  go_loopg [6, 7, 8] x.items.length (fun gg v6 v7 v8 wr => ∃ i : Nat, v8 = .int .i64 i ∧ i + gg = x.items.length ∧ ∃ s at_ op, (x.sorted.take i).foldl layItem (St.new x.conf, 1, 0) = (s, at_, op) ∧ v6 = .int .i64 at_ ∧ v7 = .int .i64 op ∧ Holds k s wr ∧ Only (Own k) w5 wr)
  case atStart => exact ⟨0, rfl, by omega, _, _, _, rfl, rfl, rfl, hH5, Only.refl _ _⟩
  case round =>
    obtain ⟨i, rfl, hi, s, at_, op, hs, rfl, rfl, hH, hO⟩ := hrel
    have d2 : wr.cell? ⟨w.heap.size, 2, none⟩ = some (.slice ca x.calls.length cc) := by rw [hO.cell lw5 hnw]; exact c2
    by_cases hlt : i < x.items.length
    · obtain ⟨it, hit⟩ : ∃ it, x.sorted[i]? = some it := ⟨_, List.getElem?_eq_getElem (by rw [sorted_len]; exact hlt)⟩
      obtain ⟨g, rfl, hgo, hgl⟩ := HAO.out (by omega)
      obtain ⟨n0, n1, n2, n3, n4⟩ := row_item HR5.out hO hgo hit
      have HIT := Lib.hid hit
      have HS := Lib.hid hs
      have HFT := Lib.hid (sorted_fits HX.out.items it (List.mem_of_getElem? hit))
      clear hit hs
      obtain ⟨_, g5, g6, gl⟩ := hH.wfacts
      cases hag : it.again with
      | true =>
        have HL := Lib.hid (show s.layOp op it = (s, op) by unfold St.layOp; rw [if_pos hag])
        rw [hag] at n4
        clear hag
        go_wp2_with (first
          | (go_at_call 31; refine (make_any 0 op _ hH).mono ?_; rintro e w6 ⟨rfl, hH6, hO6⟩; obtain ⟨_, f5, f6, fl⟩ := hH6.wfacts)
          | (go_at_call 32; refine (peek_any at_ _ hH6.cells).mono ?_; rintro e w7 ⟨rfl, rfl⟩)
          | (go_at_call 35; refine (rmarked_any _ _ (peek_range hH6.ok at_).1 (peek_range hH6.ok at_).2).mono ?_; rintro e w7 ⟨rfl, rfl⟩)
          | (go_at_call 34; refine (rpack_any _ _ _).mono ?_; rintro e w7 ⟨rfl, rfl⟩)
          | (go_at_call 33; refine (wset_any _ _ w6 hH6 (refOf_u64 _ _)).mono ?_; rintro e w8 ⟨rfl, hH8, hO8⟩; obtain ⟨m0, m1, m2, m3, m4⟩ := row_item HR5.out ((hO.trans hO6).trans hO8) hgo HIT.out)
          | (go_at_call 33; refine (wset_any _ _ w8 hH8 (refOf_u64 _ _)).mono ?_; rintro e w9 ⟨rfl, hH9, hO9⟩))
        go_roundg (x.items.length - (i + 1))
        case measure => omega
        case rel =>
          refine ⟨i + 1, rfl, by omega, _, _, _, (take_next HIT.out _).trans (congrArg (fun p => layItem p it) HS.out), ?_⟩
          simp only [HL.out]
          exact ⟨by first | rfl | trivial, by first | trivial | rfl, hH9, ((hO.trans hO6).trans hO8).trans hO9⟩
      | false =>
        have HL := Lib.hid (show s.layOp op it = ((s.begin 0 ⟨1, it.key, it.val, 0⟩).1.swap ((s.begin 0 ⟨1, it.key, it.val, 0⟩).1.wordAt (s.begin 0 ⟨1, it.key, it.val, 0⟩).2.1) 0 it.word, (s.begin 0 ⟨1, it.key, it.val, 0⟩).2.1) by unfold St.layOp; rw [if_neg (by rw [hag]; decide)])
        rw [hag] at n4
        clear hag
        have hcf : (⟨1, it.key, it.val, 0⟩ : GCall).fits := ⟨HFT.out.1.1, HFT.out.1.2, HFT.out.2.1.1, HFT.out.2.1.2⟩
        have HCF := Lib.hid hcf
        clear hcf
        have hgw : g < wr.heap.size := Nat.lt_of_lt_of_le hgl hO.size
        have hnb : ¬ Own k k.bw := hH.ne_w
        go_wp2_with fail
        go_region_held3 (fun w' => w'.cell? ⟨k.bw, 6, none⟩ = some (.pointer (some ⟨k.bb, 0, none⟩)) ∧ w'.cell? ⟨g, i * 5, none⟩ = some (.int .u64 it.key) ∧ w'.cell? ⟨g, i * 5 + 1, none⟩ = some (.int .u64 it.val))
          (first
            | go_keep
            | (refine ⟨?_, ?_, ?_⟩ <;> (rw [hOb.cell (by first | exact gl | exact hgw) (by first | exact hnb | exact hgo)]; assumption)))
          ((go_at_call 30; refine (begin_any 0 ⟨1, it.key, it.val, 0⟩ _ hH.drew HCF.out).mono ?_; rintro e wb ⟨rfl, hHb, hOb⟩))
        obtain ⟨_, b5, b6, bl⟩ := hHb.wfacts
        obtain ⟨p0, p1, p2, p3, p4⟩ := row_item HR5.out (hO.drew.trans hOb) hgo HIT.out
        go_wp2_with (first
          | (go_at_call 12; refine (wturn_any _ _ _ _ hHb HFT.out.2.2).mono ?_; rintro e wt ⟨rfl, hHt, hOt0⟩; have hOt := (hO.drew.trans hOb).trans hOt0; obtain ⟨_, t5, t6, tl⟩ := hHt.wfacts)
          | (go_at_call 31; refine (make_any 0 (s.begin 0 ⟨1, it.key, it.val, 0⟩).2.1 _ hHt).mono ?_; rintro e w6 ⟨rfl, hH6, hO6⟩; obtain ⟨_, f5, f6, fl⟩ := hH6.wfacts)
          | (go_at_call 32; refine (peek_any at_ _ hH6.cells).mono ?_; rintro e w7 ⟨rfl, rfl⟩)
          | (go_at_call 35; refine (rmarked_any _ _ (peek_range hH6.ok at_).1 (peek_range hH6.ok at_).2).mono ?_; rintro e w7 ⟨rfl, rfl⟩)
          | (go_at_call 34; refine (rpack_any _ _ _).mono ?_; rintro e w7 ⟨rfl, rfl⟩)
          | (go_at_call 33; refine (wset_any _ _ w6 hH6 (refOf_u64 _ _)).mono ?_; rintro e w8 ⟨rfl, hH8, hO8⟩; obtain ⟨m0, m1, m2, m3, m4⟩ := row_item HR5.out ((hOt.trans hO6).trans hO8) hgo HIT.out)
          | (go_at_call 33; refine (wset_any _ _ w8 hH8 (refOf_u64 _ _)).mono ?_; rintro e w9 ⟨rfl, hH9, hO9⟩))
        go_roundg (x.items.length - (i + 1))
        case measure => omega
        case rel =>
          refine ⟨i + 1, rfl, by omega, _, _, _, (take_next HIT.out _).trans (congrArg (fun p => layItem p it) HS.out), ?_⟩
          simp only [HL.out]
          exact ⟨by first | rfl | trivial, by first | trivial | rfl, hH9, ((hOt.trans hO6).trans hO8).trans hO9⟩
    · have e : i = x.items.length := by omega
      rw [e, ← sorted_len, List.take_length] at hs
      have HS := Lib.hid (show (St.new x.conf).layItems x.sorted = (s, at_, op) from hs)
      clear hs e
      have HOs := Lib.hid hO
      have HHs := Lib.hid hH
      have HL := Lib.hid (show x.lay = s.layCalls x.calls by unfold Scene.lay; rw [HS.out])
      clear hO hH
      go_wp2_with fail
      go_loopg [14] x.calls.length (fun gg v14 wc => ∃ j : Nat, v14 = .int .i64 j ∧ j + gg = x.calls.length ∧ Holds k (s.layCalls (x.calls.take j)) wc ∧ Only (Own k) w5 wc)
      case atStart => exact ⟨0, rfl, by omega, HHs.out, HOs.out⟩
      case round =>
        obtain ⟨j, rfl, hj, hH, hO⟩ := hrel
        have d2 : wr.cell? ⟨w.heap.size, 2, none⟩ = some (.slice ca x.calls.length cc) := by rw [hO.cell lw5 hnw]; exact c2
        have lwr : w.heap.size < wr.heap.size := Nat.lt_of_lt_of_le lw5 hO.size
        by_cases hlt : j < x.calls.length
        · obtain ⟨it, hit⟩ : ∃ it, x.calls[j]? = some it := ⟨_, List.getElem?_eq_getElem hlt⟩
          have hBr : Below w.heap.size w wr := HB5.out.trans (hO.below (by omega) fun i hi hn => by have := HK.out i (.inr (.inr hn)); omega)
          obtain ⟨b, o, rfl, lb, n0, n1, n2, n3⟩ := call_read (HC.out.below hBr) hit
          have hbo : ¬ Own k b := fun e => by
            have := HK.out b (.inr (.inr e))
            obtain ⟨b', o', he, hlt', _⟩ := call_read HC.out hit
            injection he with he; injection he with he1 he2; omega
          have HIT := Lib.hid hit
          have HFT := Lib.hid (HX.out.calls it (List.mem_of_getElem? hit))
          clear hit
          obtain ⟨_, g5, g6, gl⟩ := hH.wfacts
          have hnb : ¬ Own k k.bw := hH.ne_w
          go_wp2_with fail
          go_region_held3 (fun w' => w'.cell? ⟨k.bw, 6, none⟩ = some (.pointer (some ⟨k.bb, 0, none⟩)) ∧ w'.cell? ⟨w.heap.size, 2, none⟩ = some (.slice (some ⟨b, o, none⟩) x.calls.length cc) ∧ w'.cell? ⟨b, o + j * 4, none⟩ = some (.int .i64 it.kind) ∧ w'.cell? ⟨b, o + j * 4 + 1, none⟩ = some (.int .u64 it.key) ∧ w'.cell? ⟨b, o + j * 4 + 2, none⟩ = some (.int .u64 it.val) ∧ w'.cell? ⟨b, o + j * 4 + 3, none⟩ = some (.int .i64 it.limit))
            (first
              | go_keep
              | (refine ⟨?_, ?_, ?_, ?_, ?_, ?_⟩ <;> (rw [hOb.cell (by first | exact gl | exact lwr | exact lb) (by first | exact hnb | exact hnw | exact hbo)]; assumption)))
            ((go_at_call 30; refine (begin_any 2 it _ hH.drew HFT.out).mono ?_; rintro e wb ⟨rfl, hHb, hOb⟩))
          go_wp2_with fail
          go_roundg (x.calls.length - (j + 1))
          case measure => omega
          case rel =>
            refine ⟨j + 1, rfl, by omega, ?_, hO.drew.trans hOb⟩
            rw [calls_next HIT.out]
            exact hHb
        · have e : j = x.calls.length := by omega
          rw [e, List.take_length] at hH
          have HH := Lib.hid hH
          clear hH e
          go_wp2_with fail
          go_ret
          refine ⟨k, rfl, by rw [HL.out]; exact HH.out, fun i hi => Nat.le_of_lt (HK.out i hi), HB5.out.trans (hO.below (by omega) fun i hi hn => by have := HK.out i (.inr (.inr hn)); omega)⟩

end Go.Proofs.Ytccmjljlfgbicaa

/- Contract of awake (chapter 09). -/
namespace Go.Proofs.Ytccmjljlfgbicaa
open Go.ChangeShapes Go.WideShapes Go.ChangeAt Go.RowKit

def awScene09 : Scene := ⟨0, [⟨4, 9, 1, false, false⟩, ⟨2, 0, 0, false, false⟩], []⟩
theorem aw09_fits : awScene09.fits := by
  refine ⟨by decide, ?_, ?_⟩
  · intro i hi
    simp only [awScene09, List.mem_cons, List.not_mem_nil, or_false] at hi
    rcases hi with rfl | rfl
    all_goals (unfold GItem.fits; decide)
  · intro c hc; cases hc
set_option maxRecDepth 100000 in
theorem aw09_pure : awScene09.lay.chain 0 = [2, 3] ∧ awScene09.lay.prs = [(4, 9)] ∧ awScene09.lay.sound = true ∧ (awScene09.lay.chain 1).length = 0 ∧ awScene09.lay.c.buckets = 1 := by decide +kernel

set_option maxRecDepth 100000 in
set_option maxHeartbeats 2000000 in
theorem awake09_any (w : World) : Calls Try.prog 21 #[] w fun e w' => e = .returned (.bool true) ∧ Below w.heap.size w w' := by
  have HP := Lib.hid aw09_pure
  generalize hsc : awScene09.lay = s at HP
  have HS := Lib.hid hsc
  clear hsc
  have hlay := fun w v ia ca ic cc h => lay09_any (x := awScene09) (v := v) (ia := ia) (ca := ca) (ic := ic) (cc := cc) w aw09_fits (by decide) (by decide) h
  rw [HS.out] at hlay
  have HLAY := Lib.hid hlay
  clear hlay
  go_enter Try.func21, Try.ntmps21
  go_wp2_with (first
    | (go_at_call 26; refine (chain_any 1 w4 H4.out).mono ?_; rintro e w5 ⟨v5, rfl, hR5, hb5⟩
       obtain ⟨a5, c5, rfl, -⟩ := row_cells (N := fun _ => True) hR5 (fun _ _ => trivial)
       rw [HP.out.2.2.2.1])
    | (go_at_call 24; refine (lSound_any w3 H3.out).mono ?_; rintro e w4 ⟨rfl, hb4⟩; rw [HP.out.2.2.1]
       have H4 := Lib.hid (H3.out.below hb4))
    | (go_at_call 23; refine (lpairs_any w2 H2.out HP.out.2.2.2.2 (by rw [HP.out.1]; decide)).mono ?_; rintro e w3 ⟨v3, rfl, hR3, hb3⟩
       have P3 := PairsIn.of_row (N := fun _ => True) hR3 (fun _ _ => trivial)
       obtain ⟨a3, c3, rfl⟩ := P3.form
       rw [HP.out.2.1] at P3 ⊢
       obtain ⟨b3, o3, rfl, -, p0, p1⟩ := P3.at_ (i := 0) rfl
       rw [Nat.zero_mul, Nat.add_zero] at p0 p1
       have H3 := Lib.hid (H2.out.below hb3)
       have r0 : w3.cell? ⟨gl, 0, none⟩ = some (.int .i64 2) := by rw [hb3.cell (World.block_lt_of_cell? _ _ t0)]; exact t0
       have r1 : w3.cell? ⟨gl, 1, none⟩ = some (.int .i64 3) := by rw [hb3.cell (World.block_lt_of_cell? _ _ t1)]; exact t1)
    | (go_at_call 26; refine (chain_any 0 w1 hH).mono ?_; rintro e w2 ⟨v2, rfl, hR2, hb2⟩
       obtain ⟨a2, c2, rfl, hRA⟩ := row_cells (N := fun _ => True) hR2 (fun _ _ => trivial)
       rw [HP.out.1] at hRA ⊢
       obtain ⟨gl, rfl, -, t0⟩ := hRA 0 2 rfl
       obtain ⟨gl', e1, -, t1⟩ := hRA 1 3 rfl
       injection e1 with e1
       injection e1 with e1
       subst e1
       have H2 := Lib.hid (hH.below hb2))
    | (go_at_call 22; refine (HLAY.out _ _ _ _ _ _ (sceneAt_built w 0 awScene09.items 74)).mono ?_; rintro e w1 ⟨k, rfl, hH, hK, hb1⟩))
  go_ret
  have z1 := hb1.size
  have z2 := hb2.size
  have z3 := hb3.size
  have z4 := hb4.size
  exact ⟨rfl, ((Below.refl _ w).alloc (Nat.le_refl _) _).trans (((((hb1.trans (hb2.mono z1)).trans (hb3.mono (by omega))).trans (hb4.mono (by omega))).trans (hb5.mono (by omega))).mono (by simp))⟩
end Go.Proofs.Ytccmjljlfgbicaa

/- The chain of a laid scene. Plain. -/
namespace Go.Proofs.Ytccmjljlfgbicaa
open Go.ChangeShapes Go.WideShapes Go.ChangeAt Go.RowKit

theorem path_uniq {s : St} : ∀ {l r : List Int} {n : Int}, Path s n l → Path s n r → l = r
  | [], [], _, _, _ => rfl
  | [], b :: r, n, h, k => by
    have h' : s.peek n / 2 = 0 := h
    exact (k.2.1 (by rw [← k.1, h'])).elim
  | a :: l, [], n, h, k => by
    have k' : s.peek n / 2 = 0 := k
    exact (h.2.1 (by rw [← h.1, k'])).elim
  | a :: l, b :: r, n, h, k => by
    have e : a = b := h.1.symm.trans k.1
    subst e
    rw [path_uniq h.2.2 k.2.2]
/-- The nodes behind a place, where these are all. -/
theorem behind_path {s : St} : ∀ {l : List Int} {n : Int} (m : Nat), Path s n l → (∀ a ∈ n :: l, s.nextAt a = a) → l.length ≤ m → s.behind m n = l
  | [], n, 0, _, _, _ => rfl
  | [], n, m + 1, h, ha, _ => by
    have e : s.follow n = 0 := by unfold St.follow; rw [ha n (.head _)]; exact h
    unfold St.behind
    rw [if_pos e]
  | a :: l, n, 0, _, _, hl => by simp at hl
  | a :: l, n, m + 1, h, ha, hl => by
    have e : s.follow n = a := by unfold St.follow; rw [ha n (.head _)]; exact h.1
    unfold St.behind
    rw [e, if_neg h.2.1, behind_path m h.2.2 (fun b hb => ha b (.tail _ hb)) (by simp only [List.length_cons] at hl; omega)]
theorem chain_path {s : St} (hb : s.c.buckets = 1) {l : List Int} (h : Path s 1 l) (hg : ∀ a ∈ l, Good s a) (hl : (l.length : Int) ≤ s.c.nodes) (h1 : 1 < s.c.nodes) : s.chain 0 = l := by
  have hh : s.headAt 0 = 1 := by unfold St.headAt; rw [hb]; rfl
  unfold St.chain
  rw [hh, if_neg (by decide)]
  refine behind_path _ h (fun a ha => ?_) (by omega)
  rcases List.mem_cons.1 ha with rfl | ha
  · exact nextAt_in (by decide) h1
  · have := hg a ha
    exact nextAt_in (by have := this.1; omega) this.2.1
theorem nodesFrom_eq : ∀ (j k : Nat), nodesFrom k j = laidL k j
  | 0, _ => rfl
  | j + 1, k => by
    rw [nodesFrom_succ, laidL, nodesFrom_eq j (k + 1)]

/-- A scene's world, sound. -/
def Scene.sound (x : Scene) : Prop := x.lay.vw.sndRun 0 ⟨[], [], [], 0⟩ (x.lay.chain 0) = true
theorem lay_chain {x : Scene} (hx : x.fits) (hlen : x.items.length ≤ 12) : x.lay.chain 0 = laidL 0 x.items.length := by
  obtain ⟨h1, h2, h3, h4, h5, h6⟩ := lay_path hx hlen
  have hnn : x.lay.c.nodes = 98 := by rw [h2]; exact conf_nodes hx.fuel
  rw [← nodesFrom_eq]
  exact chain_path (by rw [h2]; rfl) h3 h6 (by rw [nodesFrom_len, hnn]; omega) (by rw [hnn]; decide)
theorem lay_inv {x : Scene} (hx : x.fits) (hlen : x.items.length ≤ 12) (hs : x.sound) : Inv x.lay.vw (laidG x.items.length true) :=
  inv_of_laid (lay_laidV hx hlen).1 true fun _ => by rw [← lay_chain hx hlen]; exact hs
end Go.Proofs.Ytccmjljlfgbicaa

/- A world where all is as it may be: its chain, that it is sound, its pairs. Plain. -/
namespace Go.Proofs.Ytccmjljlfgbicaa
open Go.ChangeShapes Go.WideShapes Go.ChangeAt Go.RowKit

theorem pigeon : ∀ (n : Nat) (L : List Int), L.Nodup → (∀ a ∈ L, 0 ≤ a ∧ a < (n : Int)) → L.length ≤ n
  | 0, L, _, h => by
    cases L with
    | nil => exact Nat.le_refl _
    | cons a l => have := h a (.head _); omega
  | n + 1, L, hn, h => by
    by_cases hm : (n : Int) ∈ L
    · have h1 := pigeon n (L.erase (n : Int)) (hn.erase _) fun a ha => by
        have h2 := h a (List.mem_of_mem_erase ha)
        have h3 : a ≠ (n : Int) := fun e => by
          rw [e] at ha
          exact (hn.not_mem_erase) ha
        omega
      rw [List.length_erase_of_mem hm] at h1
      omega
    · have h1 := pigeon n L hn fun a ha => by
        have h2 := h a ha
        have h3 : a ≠ (n : Int) := fun e => hm (e ▸ ha)
        omega
      omega
theorem behind_vpath {s : St} : ∀ {L : List Int} {n : Int} (m : Nat), VPath s.vw n L → L.length ≤ m → s.behind m n = L
  | [], n, 0, _, _ => rfl
  | [], n, m + 1, h, _ => by
    have e : s.follow n = 0 := h
    unfold St.behind
    rw [if_pos e]
  | a :: L, n, 0, _, hl => by simp at hl
  | a :: L, n, m + 1, h, hl => by
    have e : s.follow n = a := h.1
    unfold St.behind
    rw [e, if_neg h.2.1, behind_vpath m h.2.2 (by simp only [List.length_cons] at hl; omega)]
/-- The keys of a book are no less than none. -/
theorem call_fits {s : St} (hok : s.ok) (o : Int) : (s.call o).fits := by
  unfold St.call St.callOf
  cases h : look1 s.ops o with
  | none => exact ⟨by decide, by decide, by decide, by decide⟩
  | some c => exact (hok.ops _ (look1_mem h)).1
theorem key_range {s : St} (hok : s.ok) (n : Int) : 0 ≤ s.key n ∧ s.key n ≤ 18446744073709551615 := by
  have h := call_fits hok (s.carried n)
  exact ⟨h.1, h.2.1⟩

/-- The chain of a world of one bucket. -/
structure Sees (s : St) (g : Gh) (L : List Int) : Prop where
  chain : s.chain 0 = L
  path : VPath s.vw 1 L
  nd : ∀ m ∈ L, Nd s.vw g 0 m
  srt : L.Pairwise (Lt s.vw g)
  un : ∀ m, Nd s.vw g 0 m → ¬ s.vw.mkd m → m ∈ L
section
variable {s : St} {g : Gh}
theorem inv_sees (hok : s.ok) (hb : s.c.buckets = 1) (I : Inv s.vw g) : ∃ L, Sees s g L := by
  have hb' : s.vw.nb = 1 := hb
  obtain ⟨L, h1, h2⟩ := I.chain 0 (Int.le_refl 0) (by rw [hb']; decide)
  obtain ⟨h3, h4⟩ := path_facts I (b := 0) (.inl ⟨rfl, Int.le_refl 0, by rw [hb']; decide⟩) h1
  have hnd : L.Nodup := h4.imp fun {a b} h e => by rw [e] at h; exact h.irrefl
  have hln : L.length ≤ s.c.nodes.toNat := pigeon _ _ hnd fun a ha => by
    have := lk_range hok I (h3 a ha).1.1
    omega
  have hh : s.headAt 0 = 1 := by unfold St.headAt; rw [hb]; rfl
  refine ⟨L, ?_, h1, fun m hm => (h3 m hm).1, h4, h2⟩
  unfold St.chain
  rw [hh, if_neg (by decide)]
  exact behind_vpath _ h1 hln
theorem inv_sound (hok : s.ok) (hb : s.c.buckets = 1) (I : Inv s.vw g) (hd : g.sd = true) : s.sound = true := by
  obtain ⟨L, h⟩ := inv_sees hok hb I
  rw [St.sound_one hb]
  unfold St.sound1
  rw [h.chain]
  exact sndRun_of_inv I hd (fun n _ => (key_range hok n).1) h.nd h.srt h.un L [] _ rfl (sndAt_nil _)
theorem inv_prs (hok : s.ok) (hb : s.c.buckets = 1) (I : Inv s.vw g) (hd : g.sd = true) : Rising s.prs ∧ ∀ p, p ∈ s.prs ↔ ∃ o, s.vw.inn o ∧ p = (s.vw.ky o, s.vl o) := by
  obtain ⟨L, h⟩ := inv_sees hok hb I
  have hr := prs_rising (vl := s.vl) I hd (B := L) (once := []) (fun m hm => (h.nd m hm).1) h.srt
  have e : s.prs = s.vw.prsRun s.vl [] L := by
    unfold St.prs
    rw [h.chain, isort_rising hr]
  rw [e]
  refine ⟨hr, fun p => ?_⟩
  rw [prs_iff I hd h.nd h.un]
  have hk : ∀ k, s.vw.bk k = 0 := fun k => by
    show bucketOf k s.c.buckets = 0
    rw [hb]; exact bucket_one k
  constructor
  · rintro ⟨o, a, _, b⟩; exact ⟨o, a, b⟩
  · rintro ⟨o, a, b⟩; exact ⟨o, a, hk _, b⟩
end
end Go.Proofs.Ytccmjljlfgbicaa

/- Regions that draw their order and lay what they took: what stands where an operation yields is known ahead of it. -/
namespace Go.Proofs.Ytccmjljlfgbicaa
open Go.ChangeShapes Go.WideShapes Go.ChangeAt Go.RowKit

theorem wp_region_I {P : Program} {id : Nat} {Q : Exit → Act → World → Prop} {a : Act} {w : World} {l : List Oper} (G : (Nat → Bool) → (Nat → Value) → World → Prop) (hm : P.follows .mixedOrders = true) (hB : (dstsOk l && inTs l a.tmps.size && acyc l 0) = true)
    (h0 : G (fun _ => false) (fun j => match (l[j]?).bind (·.dst) with | some d => a.tmps.getD d undef | none => undef) w.drew) (hop : EachJ P l Q a G l 0) (hend : ∀ dn us w', G dn us w' → (∀ i, i < l.length → dn i = true) → Q .normal (fillA l us a) w') : (Code.region id l.toArray true).wp P Q a w := by
  obtain ⟨us0, hus⟩ : ∃ us0 : Nat → Value, us0 = fun j => match (l[j]?).bind (·.dst) with | some d => a.tmps.getD d undef | none => undef := ⟨_, rfl⟩
  rw [← hus] at h0
  simp only [Bool.and_eq_true] at hB
  obtain ⟨⟨hd, hb⟩, hc⟩ := hB
  refine wp_region_any hm ?_
  have hself : fillA l us0 a = a := by
    unfold fillA
    rw [fillT_self]
    intro j o d h1 h2
    rw [hus]
    simp [h1, h2]
  rw [← hself]
  refine wpAny_J (G := G) hd (fun i o ho e he hbd => by have := acyc_get hc ho e he hbd; omega) ?_ hend _ _ _ _ (by simp) ?_ ?_
  · intro i o ho dn us w1 hG hdn hdep
    have hO := hop.get ho dn us w1 (fillA l us a) (fill_eval hd hb) (fill_yielded hd hb) hG (by rw [Nat.zero_add]; exact hdn) (allD_of fun j hj => by
      obtain ⟨e, he, h2⟩ := List.mem_filterMap.1 hj
      split at h2
      · rename_i hbd
        injection h2 with h2
        rw [← h2]
        exact hdep e (by simpa using he) hbd
      · cases h2) (fun a' w' => ∃ v, a' = (fillA l us a).put o.dst v ∧ G (updB dn i) (updN us i v) w') (fun v w' hg => ⟨v, rfl, by rw [Nat.zero_add] at hg; exact hg⟩)
    unfold wpOp
    rw [show l.toArray[i]? = some o by simpa using ho]
    dsimp only
    split at hO
    · rename_i hw; rw [if_pos hw]; exact .inl hO
    · rename_i hw; rw [if_neg hw]; exact hO
  · unfold unl
    exact Nat.le_trans List.countP_le_length (by simp)
  · have e : (fun i => (Array.replicate l.toArray.size false).getD i false) = fun _ => false := by
      funext i
      by_cases hi : i < l.toArray.size
      · simp [Array.getD, Array.size_replicate]
      · simp [Array.getD, Array.size_replicate]
    rw [e]
    exact h0
/-- What is kept: number m is the last one; what stands there is known where it isn't done, too. -/
structure QI (F : Nat → Value → Prop) (m : Nat) (u : Value) (W : World) (dn : Nat → Bool) (us : Nat → Value) (w : World) : Prop where
  below : Below W.heap.size W w
  pre : ∀ j, dn j = true → F j (us j)
  old : dn m = false → us m = u
  ord : dn m = true → dn 0 = true
section
variable {F : Nat → Value → Prop} {m : Nat} {u : Value} {W w w' : World} {dn : Nat → Bool} {us : Nat → Value}
theorem QI.start (h : us m = u) : QI F m u W (fun _ => false) us W.drew := ⟨(Below.refl _ W).drew, fun _ e => (by cases e), fun _ => h, fun e => (by cases e)⟩
theorem QI.first (h : QI F m u W dn us w) {i : Nat} (hi : i ≠ m) {v : Value} (hv : F i v) : QI F m u W (updB dn i) (updN us i v) w :=
  ⟨h.below, fun j e => by
    by_cases q : j = i
    · subst q; rw [updN_eq]; exact hv
    · rw [updB_ne q] at e; rw [updN_ne q]; exact h.pre j e, fun e => (by
    rw [updB_ne hi.symm] at e; rw [updN_ne hi.symm]; exact h.old e), fun e => by
    rw [updB_ne hi.symm] at e
    by_cases q : 0 = i
    · subst q; exact updB_eq
    · rw [updB_ne q]; exact h.ord e⟩
theorem QI.last (h : QI F m u W dn us w) (h0 : dn 0 = true) {v : Value} (hv : F m v) : QI F m u W (updB dn m) (updN us m v) w :=
  ⟨h.below, fun j e => by
    by_cases q : j = m
    · subst q; rw [updN_eq]; exact hv
    · rw [updB_ne q] at e; rw [updN_ne q]; exact h.pre j e, fun e => (by rw [updB_eq] at e; cases e), fun _ => by
    by_cases q : 0 = m
    · subst q; exact updB_eq
    · rw [updB_ne q]; exact h0⟩
theorem QI.was (h : QI F m u W dn us w) (hd : dn 0 = false) : us m = u := h.old (by
  cases q : dn m with
  | false => rfl
  | true => rw [h.ord q] at hd; cases hd)
end
end Go.Proofs.Ytccmjljlfgbicaa

/- LookRises, the walk. Printed by lookr.py out of LrW.in. -/
namespace Go.Proofs.Ytccmjljlfgbicaa
open Go.ChangeShapes Go.WideShapes Go.ChangeAt Go.RowKit

set_option maxRecDepth 100000 in
set_option maxHeartbeats 2000000 in
theorem lookrises_walk {x : Scene} {v : Value} {ia ca : Option Addr} {ic cc : Nat} (w : World) (hx : x.fits) (hS : SceneAt w v x ia ca ic cc) :
    Calls Try.prog 6 #[v] w fun e w' => e = .returned (.bool true) ∧ Below w.heap.size w w' := by
  have HS := Lib.hid hS
  obtain ⟨rfl, _, _⟩ := hS
  have HX := Lib.hid hx
  clear hx
  have E0 := At.new w 25 #[.int .u8 x.fuel, .slice ia x.items.length ic, .slice ca x.calls.length cc]
  have D0 : Below w.heap.size w (w.alloc (.cells #[.int .u8 x.fuel, .slice ia x.items.length ic, .slice ca x.calls.length cc] 25)) := (Below.refl _ w).alloc (Nat.le_refl _) _
  cases hfew : x.few with
  | false =>
    have HF := Lib.hid hfew
    clear hfew
    go_enter Try.func6, Try.ntmps6
    go_upto_region 1 with fail
    generalize w.alloc (.cells #[.int .u8 x.fuel, .slice ia x.items.length ic, .slice ca x.calls.length cc] 25) = w0 at *
    go_wp2_with (first
      | (go_at_call 9; refine (few_any _).mono ?_; rintro e w2 ⟨rfl, hb2⟩; rw [HF.out])
      | (refine wpl_ld rfl 25 _ rfl #[.int .u8 x.fuel, .slice ia x.items.length ic, .slice ca x.calls.length cc] rfl _ (E0.below' hb1) Try.underlying25 rfl (by kernel_rfl) rfl ?_)
      | (go_at_call 21; refine (awake09_any _).mono ?_; rintro e w1 ⟨rfl, hb1⟩))
    go_ret
    exact ⟨rfl, D0.trans ((hb1.trans (hb2.mono hb1.size)).mono D0.size)⟩
  | true =>
    have HF := Lib.hid hfew
    have hlen : x.items.length ≤ 12 ∧ x.calls.length ≤ 6 := by
      unfold Scene.few at hfew
      simpa using hfew
    clear hfew
    have hbk : x.lay.c.buckets = 1 := by rw [(lay_path HX.out hlen.1).2.1]; rfl
    have hch : (x.lay.chain 0).length ≤ 12 := by rw [lay_chain HX.out hlen.1, laidL_len]; exact hlen.1
    have hpl : x.lay.prs.length ≤ 12 := Nat.le_trans (by unfold St.prs; rw [isort_len]; exact prs_len _ _ _ _) hch
    have hup : x.lay.sound = true → Rising x.lay.prs := fun h => (inv_prs (lay_path HX.out hlen.1).1 hbk (lay_inv HX.out hlen.1 (by rw [St.sound_one hbk] at h; exact h)) rfl).1
    have HBK := Lib.hid hbk
    have HCH := Lib.hid (show (x.lay.chain 0).length ≤ 19 by omega)
    obtain ⟨sb, hsb⟩ : ∃ sb, x.lay.sound = sb := ⟨_, rfl⟩
    have HSB := Lib.hid hsb
    rw [hsb] at hup
    have HUP := Lib.hid hup
    have HL := Lib.hid hlen
    clear hbk hlen hch hsb hup
    go_enter Try.func6, Try.ntmps6
    go_upto_region 1 with fail
    generalize w.alloc (.cells #[.int .u8 x.fuel, .slice ia x.items.length ic, .slice ca x.calls.length cc] 25) = w0 at *
    go_wp2_with (first
      | (go_at_call 23; refine (lpairs_any w3 hH HBK.out HCH.out).mono ?_; rintro e w4 ⟨v4, rfl, hR4, hb4⟩
         have P4 := PairsIn.of_row (N := fun _ => True) hR4 (fun _ _ => trivial)
         obtain ⟨pa, pc, rfl⟩ := P4.form)
      | (go_at_call 22; refine (lay09_any w2 HX.out HL.out.1 HL.out.2 ⟨rfl, HS.out.items.below D2, HS.out.calls.below D2⟩).mono ?_; rintro e w3 ⟨k, rfl, hH, hK, hb3⟩
         have D3 := D2.trans (hb3.mono D2.size))
      | (refine wpl_ld rfl 25 _ rfl #[.int .u8 x.fuel, .slice ia x.items.length ic, .slice ca x.calls.length cc] rfl _ ((E0.below' hb1).below' hb2) Try.underlying25 rfl (by kernel_rfl) rfl ?_)
      | (go_at_call 9; refine (few_any _).mono ?_; rintro e w2 ⟨rfl, hb2⟩; rw [HF.out]
         have D2 := D0.trans ((hb1.trans (hb2.mono hb1.size)).mono D0.size))
      | (refine wpl_ld rfl 25 _ rfl #[.int .u8 x.fuel, .slice ia x.items.length ic, .slice ca x.calls.length cc] rfl _ (E0.below' hb1) Try.underlying25 rfl (by kernel_rfl) rfl ?_)
      | (go_at_call 21; refine (awake09_any _).mono ?_; rintro e w1 ⟨rfl, hb1⟩))
    have D4 := D3.trans (hb4.mono D3.size)
    have H4 := Lib.hid (hH.below hb4)
    have HP4 := Lib.hid P4
    clear hb1 hb2 hb3 hb4 D0 D2 D3 E0 hH hK hR4 P4
    obtain ⟨pn, hpn⟩ : ∃ pn, pn = x.lay.prs.length := ⟨_, rfl⟩
    have HPN := Lib.hid hpn
    rw [← hpn] at HP4 hpl ⊢
    clear hpn
    go_loopg [6, 7] pn (fun gg v6 v7 wr => ∃ (i : Nat) (r : Bool), v6 = .bool r ∧ v7 = .int .i64 i ∧ 1 ≤ i ∧ i + gg = pn + 1 ∧ (sb = true → r = true) ∧ Below w4.heap.size w4 wr)
    case atStart => exact ⟨1, true, rfl, rfl, Nat.le_refl _, by omega, fun _ => rfl, Below.refl _ _⟩
    case round =>
      obtain ⟨i, r, rfl, rfl, hi1, hi, hr, hb⟩ := hrel
      by_cases hlt : i < pn
      · obtain ⟨jj, hjj⟩ : ∃ jj, i = jj + 1 := ⟨i - 1, by omega⟩
        obtain ⟨p, hpi⟩ : ∃ p, x.lay.prs[i]? = some p := ⟨_, List.getElem?_eq_getElem (by rw [← HPN.out]; exact hlt)⟩
        obtain ⟨q, hqj⟩ : ∃ q, x.lay.prs[jj]? = some q := ⟨_, List.getElem?_eq_getElem (by rw [← HPN.out]; omega)⟩
        obtain ⟨pb, po, rfl, _, p0, _⟩ := (HP4.out.below hb).at_ hpi
        obtain ⟨pb', po', e1, _, q0, _⟩ := (HP4.out.below hb).at_ hqj
        injection e1 with e1
        injection e1 with e1 e2
        subst e1; subst e2
        have hrise : sb = true → q.1 < p.1 := by
          intro h
          have := List.pairwise_iff_getElem.1 (HUP.out h) jj i (List.getElem?_eq_some_iff.1 hqj).1 (List.getElem?_eq_some_iff.1 hpi).1 (by omega)
          rwa [(List.getElem?_eq_some_iff.1 hqj).2, (List.getElem?_eq_some_iff.1 hpi).2] at this
        have hij : (i : Int) - 1 = (jj : Int) := by omega
        have hwj : IntKind.i64.wrap (jj : Int) = (jj : Int) := IntWalk.i64_in _ (by omega)
        have hjl : jj < pn := by omega
        clear hpi hqj hjj
        cases r with
        | false =>
          have hsf : sb = false := by
            cases sb with
            | false => rfl
            | true => exact (Bool.noConfusion (hr rfl))
          go_wp2_with fail
          refine wp_region_I (l := [_, _, _, _, _, _, _, _, _, _, _, _, _, _, _, _]) (QI (fun j v => match j with | 0 => v = .bool false | 1 => v = .bool false | 14 => v = .bool false | 15 => v = .bool false | _ => True) 15 (.bool false) wr) (by kernel_rfl) (by kernel_rfl) (QI.start rfl) ⟨?_, ?_, ?_, ?_, ?_, ?_, ?_, ?_, ?_, ?_, ?_, ?_, ?_, ?_, ?_, ?_, trivial⟩ ?_
          · intro dn us w6 A hev hy hG hdn hdep K hK
            have e0 : A.eval (.tmp 6) = .bool false := by rw [hev]; exact hG.was hdn
            rw [if_pos (by rfl)]
            unfold Oper.wp execOp
            generalize A.eval = ev at e0 ⊢
            go_simp
            exact hK _ _ (hG.first (by decide) rfl)
          · intro dn us w6 A hev hy hG hdn hdep K hK
            have d0 : dn 0 = true := allD_mem hdep (by decide)
            have e0 : A.eval (.tmp 23) = .bool false := by rw [hev]; exact hG.pre 0 d0
            rw [if_pos (by rfl)]
            unfold Oper.wp execOp
            generalize A.eval = ev at e0 ⊢
            go_simp
            exact hK _ _ (hG.first (by decide) (by first | rfl | (simp; done) | (simp; omega) | (simp; assumption)))
          · intro dn us w6 A hev hy hG hdn hdep K hK
            have d1 : dn 1 = true := allD_mem hdep (by decide)
            have hg : us 1 = .bool false := hG.pre 1 d1
            rw [if_neg (by rw [hy]; show ¬ ((match us 1 with | .bool b => some b | _ => none) == some true) = true; rw [hg]; decide)]
            exact hK _ _ (hG.first (by decide) trivial)
          · intro dn us w6 A hev hy hG hdn hdep K hK
            have d1 : dn 1 = true := allD_mem hdep (by decide)
            have hg : us 1 = .bool false := hG.pre 1 d1
            rw [if_neg (by rw [hy]; show ¬ ((match us 1 with | .bool b => some b | _ => none) == some true) = true; rw [hg]; decide)]
            exact hK _ _ (hG.first (by decide) trivial)
          · intro dn us w6 A hev hy hG hdn hdep K hK
            have d1 : dn 1 = true := allD_mem hdep (by decide)
            have e0 : A.eval (.const (.int .i64 1)) = .int .i64 1 := by rw [hev]; rfl
            have hg : us 1 = .bool false := hG.pre 1 d1
            rw [if_neg (by rw [hy]; show ¬ ((match us 1 with | .bool b => some b | _ => none) == some true) = true; rw [hg]; decide)]
            exact hK _ _ (hG.first (by decide) trivial)
          · intro dn us w6 A hev hy hG hdn hdep K hK
            have d1 : dn 1 = true := allD_mem hdep (by decide)
            have hg : us 1 = .bool false := hG.pre 1 d1
            rw [if_neg (by rw [hy]; show ¬ ((match us 1 with | .bool b => some b | _ => none) == some true) = true; rw [hg]; decide)]
            exact hK _ _ (hG.first (by decide) trivial)
          · intro dn us w6 A hev hy hG hdn hdep K hK
            have d1 : dn 1 = true := allD_mem hdep (by decide)
            have hg : us 1 = .bool false := hG.pre 1 d1
            rw [if_neg (by rw [hy]; show ¬ ((match us 1 with | .bool b => some b | _ => none) == some true) = true; rw [hg]; decide)]
            exact hK _ _ (hG.first (by decide) trivial)
          · intro dn us w6 A hev hy hG hdn hdep K hK
            have d1 : dn 1 = true := allD_mem hdep (by decide)
            have hg : us 1 = .bool false := hG.pre 1 d1
            rw [if_neg (by rw [hy]; show ¬ ((match us 1 with | .bool b => some b | _ => none) == some true) = true; rw [hg]; decide)]
            exact hK _ _ (hG.first (by decide) trivial)
          · intro dn us w6 A hev hy hG hdn hdep K hK
            have d1 : dn 1 = true := allD_mem hdep (by decide)
            have hg : us 1 = .bool false := hG.pre 1 d1
            rw [if_neg (by rw [hy]; show ¬ ((match us 1 with | .bool b => some b | _ => none) == some true) = true; rw [hg]; decide)]
            exact hK _ _ (hG.first (by decide) trivial)
          · intro dn us w6 A hev hy hG hdn hdep K hK
            have d1 : dn 1 = true := allD_mem hdep (by decide)
            have hg : us 1 = .bool false := hG.pre 1 d1
            rw [if_neg (by rw [hy]; show ¬ ((match us 1 with | .bool b => some b | _ => none) == some true) = true; rw [hg]; decide)]
            exact hK _ _ (hG.first (by decide) trivial)
          · intro dn us w6 A hev hy hG hdn hdep K hK
            have d1 : dn 1 = true := allD_mem hdep (by decide)
            have hg : us 1 = .bool false := hG.pre 1 d1
            rw [if_neg (by rw [hy]; show ¬ ((match us 1 with | .bool b => some b | _ => none) == some true) = true; rw [hg]; decide)]
            exact hK _ _ (hG.first (by decide) trivial)
          · intro dn us w6 A hev hy hG hdn hdep K hK
            have d1 : dn 1 = true := allD_mem hdep (by decide)
            have hg : us 1 = .bool false := hG.pre 1 d1
            rw [if_neg (by rw [hy]; show ¬ ((match us 1 with | .bool b => some b | _ => none) == some true) = true; rw [hg]; decide)]
            exact hK _ _ (hG.first (by decide) trivial)
          · intro dn us w6 A hev hy hG hdn hdep K hK
            have d1 : dn 1 = true := allD_mem hdep (by decide)
            have hg : us 1 = .bool false := hG.pre 1 d1
            rw [if_neg (by rw [hy]; show ¬ ((match us 1 with | .bool b => some b | _ => none) == some true) = true; rw [hg]; decide)]
            exact hK _ _ (hG.first (by decide) trivial)
          · intro dn us w6 A hev hy hG hdn hdep K hK
            have d1 : dn 1 = true := allD_mem hdep (by decide)
            have hg : us 1 = .bool false := hG.pre 1 d1
            rw [if_neg (by rw [hy]; show ¬ ((match us 1 with | .bool b => some b | _ => none) == some true) = true; rw [hg]; decide)]
            exact hK _ _ (hG.first (by decide) trivial)
          · intro dn us w6 A hev hy hG hdn hdep K hK
            have d1 : dn 1 = true := allD_mem hdep (by decide)
            have e0 : A.eval (.tmp 24) = .bool false := by rw [hev]; exact hG.pre 1 d1
            have e1 : A.eval (.const (.bool false)) = .bool false := by rw [hev]; rfl
            rw [if_pos (by rfl)]
            unfold Oper.wp execOp
            generalize A.eval = ev at e0 e1 ⊢
            go_simp
            exact hK _ _ (hG.first (by decide) (by first | rfl | (simp; done) | (simp; omega) | (simp; assumption)))
          · intro dn us w6 A hev hy hG hdn hdep K hK
            have d14 : dn 14 = true := allD_mem hdep (by decide)
            have d0 : dn 0 = true := allD_mem hdep (by decide)
            have e0 : A.eval (.tmp 37) = .bool false := by rw [hev]; exact hG.pre 14 d14
            rw [if_pos (by rfl)]
            unfold Oper.wp execOp
            generalize A.eval = ev at e0 ⊢
            go_simp
            exact hK _ _ (hG.last d0 rfl)
          intro dn us wA hG hall
          have u15 : us 15 = .bool false := hG.pre 15 (hall 15 (by decide))
          have DA := hG.below
          simp only [fillA, fillT, Nat.reduceAdd, List.setIfInBounds_toArray, List.set_cons_zero, List.set_cons_succ, u15]
          clear hG hall u15
          go_wp2_with fail
          go_roundg (pn - i)
          case measure => omega
          case rel => exact ⟨i + 1, false, rfl, rfl, by omega, by omega, (fun e => by rw [hsf] at e; cases e), hb.trans (DA.mono hb.size)⟩
        | true =>
          by_cases hqp : q.1 < p.1
          · go_wp2_with fail
            refine wp_region_I (l := [_, _, _, _, _, _, _, _, _, _, _, _, _, _, _, _]) (QI (fun j v => match j with | 0 => v = .bool true | 1 => v = .bool true | 2 => v = .slice (some ⟨pb, po, none⟩) pn pc | 3 => v = .int .i64 i | 4 => v = .int .i64 jj | 5 => v = .pointer (some ⟨pb, po + jj * 2, none⟩) | 6 => v = .pointer (some ⟨pb, po + jj * 2, none⟩) | 7 => v = .int .u64 q.1 | 8 => v = .slice (some ⟨pb, po, none⟩) pn pc | 9 => v = .int .i64 i | 10 => v = .pointer (some ⟨pb, po + i * 2, none⟩) | 11 => v = .pointer (some ⟨pb, po + i * 2, none⟩) | 12 => v = .int .u64 p.1 | 13 => v = .bool true | 14 => v = .bool true | 15 => v = .bool true | _ => True) 15 (.bool true) wr) (by kernel_rfl) (by kernel_rfl) (QI.start rfl) ⟨?_, ?_, ?_, ?_, ?_, ?_, ?_, ?_, ?_, ?_, ?_, ?_, ?_, ?_, ?_, ?_, trivial⟩ ?_
            · intro dn us w6 A hev hy hG hdn hdep K hK
              have e0 : A.eval (.tmp 6) = .bool true := by rw [hev]; exact hG.was hdn
              rw [if_pos (by rfl)]
              unfold Oper.wp execOp
              generalize A.eval = ev at e0 ⊢
              go_simp
              exact hK _ _ (hG.first (by decide) rfl)
            · intro dn us w6 A hev hy hG hdn hdep K hK
              have d0 : dn 0 = true := allD_mem hdep (by decide)
              have e0 : A.eval (.tmp 23) = .bool true := by rw [hev]; exact hG.pre 0 d0
              rw [if_pos (by rfl)]
              unfold Oper.wp execOp
              generalize A.eval = ev at e0 ⊢
              go_simp
              exact hK _ _ (hG.first (by decide) (by first | rfl | (simp; done) | (simp; omega) | (simp; assumption)))
            · intro dn us w6 A hev hy hG hdn hdep K hK
              have d1 : dn 1 = true := allD_mem hdep (by decide)
              have e0 : A.eval (.tmp 5) = .slice (some ⟨pb, po, none⟩) pn pc := by rw [hev]; rfl
              have hg : us 1 = .bool true := hG.pre 1 d1
              rw [if_pos (by rw [hy]; show ((match us 1 with | .bool b => some b | _ => none) == some true) = true; rw [hg]; rfl)]
              unfold Oper.wp execOp
              generalize A.eval = ev at e0 ⊢
              go_simp
              exact hK _ _ (hG.first (by decide) (by first | rfl | (simp; done) | (simp; omega) | (simp; assumption)))
            · intro dn us w6 A hev hy hG hdn hdep K hK
              have d1 : dn 1 = true := allD_mem hdep (by decide)
              have e0 : A.eval (.tmp 7) = .int .i64 i := by rw [hev]; rfl
              have hg : us 1 = .bool true := hG.pre 1 d1
              rw [if_pos (by rw [hy]; show ((match us 1 with | .bool b => some b | _ => none) == some true) = true; rw [hg]; rfl)]
              unfold Oper.wp execOp
              generalize A.eval = ev at e0 ⊢
              go_simp
              exact hK _ _ (hG.first (by decide) (by first | rfl | (simp; done) | (simp; omega) | (simp; assumption)))
            · intro dn us w6 A hev hy hG hdn hdep K hK
              have d1 : dn 1 = true := allD_mem hdep (by decide)
              have d3 : dn 3 = true := allD_mem hdep (by decide)
              have e0 : A.eval (.tmp 26) = .int .i64 i := by rw [hev]; exact hG.pre 3 d3
              have e1 : A.eval (.const (.int .i64 1)) = .int .i64 1 := by rw [hev]; rfl
              have hg : us 1 = .bool true := hG.pre 1 d1
              rw [if_pos (by rw [hy]; show ((match us 1 with | .bool b => some b | _ => none) == some true) = true; rw [hg]; rfl)]
              unfold Oper.wp execOp
              generalize A.eval = ev at e0 e1 ⊢
              go_simp
              exact hK _ _ (hG.first (by decide) (by first | rfl | (simp; done) | (simp; omega) | (simp; assumption)))
            · intro dn us w6 A hev hy hG hdn hdep K hK
              have d1 : dn 1 = true := allD_mem hdep (by decide)
              have d2 : dn 2 = true := allD_mem hdep (by decide)
              have d4 : dn 4 = true := allD_mem hdep (by decide)
              have e0 : A.eval (.tmp 25) = .slice (some ⟨pb, po, none⟩) pn pc := by rw [hev]; exact hG.pre 2 d2
              have e1 : A.eval (.tmp 27) = .int .i64 jj := by rw [hev]; exact hG.pre 4 d4
              have hg : us 1 = .bool true := hG.pre 1 d1
              rw [if_pos (by rw [hy]; show ((match us 1 with | .bool b => some b | _ => none) == some true) = true; rw [hg]; rfl)]
              unfold Oper.wp execOp
              generalize A.eval = ev at e0 e1 ⊢
              go_simp
              exact hK _ _ (hG.first (by decide) (by first | rfl | (simp; done) | (simp; omega) | (simp; assumption)))
            · intro dn us w6 A hev hy hG hdn hdep K hK
              have d1 : dn 1 = true := allD_mem hdep (by decide)
              have d5 : dn 5 = true := allD_mem hdep (by decide)
              have e0 : A.eval (.tmp 28) = .pointer (some ⟨pb, po + jj * 2, none⟩) := by rw [hev]; exact hG.pre 5 d5
              have hg : us 1 = .bool true := hG.pre 1 d1
              rw [if_pos (by rw [hy]; show ((match us 1 with | .bool b => some b | _ => none) == some true) = true; rw [hg]; rfl)]
              unfold Oper.wp execOp
              generalize A.eval = ev at e0 ⊢
              go_simp
              exact hK _ _ (hG.first (by decide) (by first | rfl | (simp; done) | (simp; omega) | (simp; assumption)))
            · intro dn us w6 A hev hy hG hdn hdep K hK
              have d1 : dn 1 = true := allD_mem hdep (by decide)
              have d6 : dn 6 = true := allD_mem hdep (by decide)
              have e0 : A.eval (.tmp 29) = .pointer (some ⟨pb, po + jj * 2, none⟩) := by rw [hev]; exact hG.pre 6 d6
              have zq0 : w6.cell? ⟨pb, po + jj * 2, none⟩ = some (.int .u64 q.1) := by rw [hG.below.cell (World.block_lt_of_cell? _ _ q0)]; exact q0
              have hg : us 1 = .bool true := hG.pre 1 d1
              rw [if_pos (by rw [hy]; show ((match us 1 with | .bool b => some b | _ => none) == some true) = true; rw [hg]; rfl)]
              unfold Oper.wp execOp
              generalize A.eval = ev at e0 ⊢
              go_simp
              exact hK _ _ (hG.first (by decide) (by first | rfl | (simp; done) | (simp; omega) | (simp; assumption)))
            · intro dn us w6 A hev hy hG hdn hdep K hK
              have d1 : dn 1 = true := allD_mem hdep (by decide)
              have e0 : A.eval (.tmp 5) = .slice (some ⟨pb, po, none⟩) pn pc := by rw [hev]; rfl
              have hg : us 1 = .bool true := hG.pre 1 d1
              rw [if_pos (by rw [hy]; show ((match us 1 with | .bool b => some b | _ => none) == some true) = true; rw [hg]; rfl)]
              unfold Oper.wp execOp
              generalize A.eval = ev at e0 ⊢
              go_simp
              exact hK _ _ (hG.first (by decide) (by first | rfl | (simp; done) | (simp; omega) | (simp; assumption)))
            · intro dn us w6 A hev hy hG hdn hdep K hK
              have d1 : dn 1 = true := allD_mem hdep (by decide)
              have e0 : A.eval (.tmp 7) = .int .i64 i := by rw [hev]; rfl
              have hg : us 1 = .bool true := hG.pre 1 d1
              rw [if_pos (by rw [hy]; show ((match us 1 with | .bool b => some b | _ => none) == some true) = true; rw [hg]; rfl)]
              unfold Oper.wp execOp
              generalize A.eval = ev at e0 ⊢
              go_simp
              exact hK _ _ (hG.first (by decide) (by first | rfl | (simp; done) | (simp; omega) | (simp; assumption)))
            · intro dn us w6 A hev hy hG hdn hdep K hK
              have d1 : dn 1 = true := allD_mem hdep (by decide)
              have d8 : dn 8 = true := allD_mem hdep (by decide)
              have d9 : dn 9 = true := allD_mem hdep (by decide)
              have e0 : A.eval (.tmp 31) = .slice (some ⟨pb, po, none⟩) pn pc := by rw [hev]; exact hG.pre 8 d8
              have e1 : A.eval (.tmp 32) = .int .i64 i := by rw [hev]; exact hG.pre 9 d9
              have hg : us 1 = .bool true := hG.pre 1 d1
              rw [if_pos (by rw [hy]; show ((match us 1 with | .bool b => some b | _ => none) == some true) = true; rw [hg]; rfl)]
              unfold Oper.wp execOp
              generalize A.eval = ev at e0 e1 ⊢
              go_simp
              exact hK _ _ (hG.first (by decide) (by first | rfl | (simp; done) | (simp; omega) | (simp; assumption)))
            · intro dn us w6 A hev hy hG hdn hdep K hK
              have d1 : dn 1 = true := allD_mem hdep (by decide)
              have d10 : dn 10 = true := allD_mem hdep (by decide)
              have e0 : A.eval (.tmp 33) = .pointer (some ⟨pb, po + i * 2, none⟩) := by rw [hev]; exact hG.pre 10 d10
              have hg : us 1 = .bool true := hG.pre 1 d1
              rw [if_pos (by rw [hy]; show ((match us 1 with | .bool b => some b | _ => none) == some true) = true; rw [hg]; rfl)]
              unfold Oper.wp execOp
              generalize A.eval = ev at e0 ⊢
              go_simp
              exact hK _ _ (hG.first (by decide) (by first | rfl | (simp; done) | (simp; omega) | (simp; assumption)))
            · intro dn us w6 A hev hy hG hdn hdep K hK
              have d1 : dn 1 = true := allD_mem hdep (by decide)
              have d11 : dn 11 = true := allD_mem hdep (by decide)
              have e0 : A.eval (.tmp 34) = .pointer (some ⟨pb, po + i * 2, none⟩) := by rw [hev]; exact hG.pre 11 d11
              have zp0 : w6.cell? ⟨pb, po + i * 2, none⟩ = some (.int .u64 p.1) := by rw [hG.below.cell (World.block_lt_of_cell? _ _ p0)]; exact p0
              have hg : us 1 = .bool true := hG.pre 1 d1
              rw [if_pos (by rw [hy]; show ((match us 1 with | .bool b => some b | _ => none) == some true) = true; rw [hg]; rfl)]
              unfold Oper.wp execOp
              generalize A.eval = ev at e0 ⊢
              go_simp
              exact hK _ _ (hG.first (by decide) (by first | rfl | (simp; done) | (simp; omega) | (simp; assumption)))
            · intro dn us w6 A hev hy hG hdn hdep K hK
              have d1 : dn 1 = true := allD_mem hdep (by decide)
              have d7 : dn 7 = true := allD_mem hdep (by decide)
              have d12 : dn 12 = true := allD_mem hdep (by decide)
              have e0 : A.eval (.tmp 30) = .int .u64 q.1 := by rw [hev]; exact hG.pre 7 d7
              have e1 : A.eval (.tmp 35) = .int .u64 p.1 := by rw [hev]; exact hG.pre 12 d12
              have hg : us 1 = .bool true := hG.pre 1 d1
              rw [if_pos (by rw [hy]; show ((match us 1 with | .bool b => some b | _ => none) == some true) = true; rw [hg]; rfl)]
              unfold Oper.wp execOp
              generalize A.eval = ev at e0 e1 ⊢
              go_simp
              exact hK _ _ (hG.first (by decide) (by first | rfl | (simp; done) | (simp; omega) | (simp; assumption)))
            · intro dn us w6 A hev hy hG hdn hdep K hK
              have d1 : dn 1 = true := allD_mem hdep (by decide)
              have d13 : dn 13 = true := allD_mem hdep (by decide)
              have e0 : A.eval (.tmp 24) = .bool true := by rw [hev]; exact hG.pre 1 d1
              have e1 : A.eval (.tmp 36) = .bool true := by rw [hev]; exact hG.pre 13 d13
              have e2 : A.eval (.const (.bool false)) = .bool false := by rw [hev]; rfl
              rw [if_pos (by rfl)]
              unfold Oper.wp execOp
              generalize A.eval = ev at e0 e1 e2 ⊢
              go_simp
              exact hK _ _ (hG.first (by decide) (by first | rfl | (simp; done) | (simp; omega) | (simp; assumption)))
            · intro dn us w6 A hev hy hG hdn hdep K hK
              have d14 : dn 14 = true := allD_mem hdep (by decide)
              have d0 : dn 0 = true := allD_mem hdep (by decide)
              have e0 : A.eval (.tmp 37) = .bool true := by rw [hev]; exact hG.pre 14 d14
              rw [if_pos (by rfl)]
              unfold Oper.wp execOp
              generalize A.eval = ev at e0 ⊢
              go_simp
              exact hK _ _ (hG.last d0 rfl)
            intro dn us wA hG hall
            have u15 : us 15 = .bool true := hG.pre 15 (hall 15 (by decide))
            have DA := hG.below
            simp only [fillA, fillT, Nat.reduceAdd, List.setIfInBounds_toArray, List.set_cons_zero, List.set_cons_succ, u15]
            clear hG hall u15
            go_wp2_with fail
            go_roundg (pn - i)
            case measure => omega
            case rel => exact ⟨i + 1, true, rfl, rfl, by omega, by omega, (fun _ => rfl), hb.trans (DA.mono hb.size)⟩
          · go_wp2_with fail
            refine wp_region_I (l := [_, _, _, _, _, _, _, _, _, _, _, _, _, _, _, _]) (QI (fun j v => match j with | 0 => v = .bool true | 1 => v = .bool true | 2 => v = .slice (some ⟨pb, po, none⟩) pn pc | 3 => v = .int .i64 i | 4 => v = .int .i64 jj | 5 => v = .pointer (some ⟨pb, po + jj * 2, none⟩) | 6 => v = .pointer (some ⟨pb, po + jj * 2, none⟩) | 7 => v = .int .u64 q.1 | 8 => v = .slice (some ⟨pb, po, none⟩) pn pc | 9 => v = .int .i64 i | 10 => v = .pointer (some ⟨pb, po + i * 2, none⟩) | 11 => v = .pointer (some ⟨pb, po + i * 2, none⟩) | 12 => v = .int .u64 p.1 | 13 => v = .bool false | 14 => v = .bool false | 15 => v = .bool false | _ => True) 15 (.bool true) wr) (by kernel_rfl) (by kernel_rfl) (QI.start rfl) ⟨?_, ?_, ?_, ?_, ?_, ?_, ?_, ?_, ?_, ?_, ?_, ?_, ?_, ?_, ?_, ?_, trivial⟩ ?_
            · intro dn us w6 A hev hy hG hdn hdep K hK
              have e0 : A.eval (.tmp 6) = .bool true := by rw [hev]; exact hG.was hdn
              rw [if_pos (by rfl)]
              unfold Oper.wp execOp
              generalize A.eval = ev at e0 ⊢
              go_simp
              exact hK _ _ (hG.first (by decide) rfl)
            · intro dn us w6 A hev hy hG hdn hdep K hK
              have d0 : dn 0 = true := allD_mem hdep (by decide)
              have e0 : A.eval (.tmp 23) = .bool true := by rw [hev]; exact hG.pre 0 d0
              rw [if_pos (by rfl)]
              unfold Oper.wp execOp
              generalize A.eval = ev at e0 ⊢
              go_simp
              exact hK _ _ (hG.first (by decide) (by first | rfl | (simp; done) | (simp; omega) | (simp; assumption)))
            · intro dn us w6 A hev hy hG hdn hdep K hK
              have d1 : dn 1 = true := allD_mem hdep (by decide)
              have e0 : A.eval (.tmp 5) = .slice (some ⟨pb, po, none⟩) pn pc := by rw [hev]; rfl
              have hg : us 1 = .bool true := hG.pre 1 d1
              rw [if_pos (by rw [hy]; show ((match us 1 with | .bool b => some b | _ => none) == some true) = true; rw [hg]; rfl)]
              unfold Oper.wp execOp
              generalize A.eval = ev at e0 ⊢
              go_simp
              exact hK _ _ (hG.first (by decide) (by first | rfl | (simp; done) | (simp; omega) | (simp; assumption)))
            · intro dn us w6 A hev hy hG hdn hdep K hK
              have d1 : dn 1 = true := allD_mem hdep (by decide)
              have e0 : A.eval (.tmp 7) = .int .i64 i := by rw [hev]; rfl
              have hg : us 1 = .bool true := hG.pre 1 d1
              rw [if_pos (by rw [hy]; show ((match us 1 with | .bool b => some b | _ => none) == some true) = true; rw [hg]; rfl)]
              unfold Oper.wp execOp
              generalize A.eval = ev at e0 ⊢
              go_simp
              exact hK _ _ (hG.first (by decide) (by first | rfl | (simp; done) | (simp; omega) | (simp; assumption)))
            · intro dn us w6 A hev hy hG hdn hdep K hK
              have d1 : dn 1 = true := allD_mem hdep (by decide)
              have d3 : dn 3 = true := allD_mem hdep (by decide)
              have e0 : A.eval (.tmp 26) = .int .i64 i := by rw [hev]; exact hG.pre 3 d3
              have e1 : A.eval (.const (.int .i64 1)) = .int .i64 1 := by rw [hev]; rfl
              have hg : us 1 = .bool true := hG.pre 1 d1
              rw [if_pos (by rw [hy]; show ((match us 1 with | .bool b => some b | _ => none) == some true) = true; rw [hg]; rfl)]
              unfold Oper.wp execOp
              generalize A.eval = ev at e0 e1 ⊢
              go_simp
              exact hK _ _ (hG.first (by decide) (by first | rfl | (simp; done) | (simp; omega) | (simp; assumption)))
            · intro dn us w6 A hev hy hG hdn hdep K hK
              have d1 : dn 1 = true := allD_mem hdep (by decide)
              have d2 : dn 2 = true := allD_mem hdep (by decide)
              have d4 : dn 4 = true := allD_mem hdep (by decide)
              have e0 : A.eval (.tmp 25) = .slice (some ⟨pb, po, none⟩) pn pc := by rw [hev]; exact hG.pre 2 d2
              have e1 : A.eval (.tmp 27) = .int .i64 jj := by rw [hev]; exact hG.pre 4 d4
              have hg : us 1 = .bool true := hG.pre 1 d1
              rw [if_pos (by rw [hy]; show ((match us 1 with | .bool b => some b | _ => none) == some true) = true; rw [hg]; rfl)]
              unfold Oper.wp execOp
              generalize A.eval = ev at e0 e1 ⊢
              go_simp
              exact hK _ _ (hG.first (by decide) (by first | rfl | (simp; done) | (simp; omega) | (simp; assumption)))
            · intro dn us w6 A hev hy hG hdn hdep K hK
              have d1 : dn 1 = true := allD_mem hdep (by decide)
              have d5 : dn 5 = true := allD_mem hdep (by decide)
              have e0 : A.eval (.tmp 28) = .pointer (some ⟨pb, po + jj * 2, none⟩) := by rw [hev]; exact hG.pre 5 d5
              have hg : us 1 = .bool true := hG.pre 1 d1
              rw [if_pos (by rw [hy]; show ((match us 1 with | .bool b => some b | _ => none) == some true) = true; rw [hg]; rfl)]
              unfold Oper.wp execOp
              generalize A.eval = ev at e0 ⊢
              go_simp
              exact hK _ _ (hG.first (by decide) (by first | rfl | (simp; done) | (simp; omega) | (simp; assumption)))
            · intro dn us w6 A hev hy hG hdn hdep K hK
              have d1 : dn 1 = true := allD_mem hdep (by decide)
              have d6 : dn 6 = true := allD_mem hdep (by decide)
              have e0 : A.eval (.tmp 29) = .pointer (some ⟨pb, po + jj * 2, none⟩) := by rw [hev]; exact hG.pre 6 d6
              have zq0 : w6.cell? ⟨pb, po + jj * 2, none⟩ = some (.int .u64 q.1) := by rw [hG.below.cell (World.block_lt_of_cell? _ _ q0)]; exact q0
              have hg : us 1 = .bool true := hG.pre 1 d1
              rw [if_pos (by rw [hy]; show ((match us 1 with | .bool b => some b | _ => none) == some true) = true; rw [hg]; rfl)]
              unfold Oper.wp execOp
              generalize A.eval = ev at e0 ⊢
              go_simp
              exact hK _ _ (hG.first (by decide) (by first | rfl | (simp; done) | (simp; omega) | (simp; assumption)))
            · intro dn us w6 A hev hy hG hdn hdep K hK
              have d1 : dn 1 = true := allD_mem hdep (by decide)
              have e0 : A.eval (.tmp 5) = .slice (some ⟨pb, po, none⟩) pn pc := by rw [hev]; rfl
              have hg : us 1 = .bool true := hG.pre 1 d1
              rw [if_pos (by rw [hy]; show ((match us 1 with | .bool b => some b | _ => none) == some true) = true; rw [hg]; rfl)]
              unfold Oper.wp execOp
              generalize A.eval = ev at e0 ⊢
              go_simp
              exact hK _ _ (hG.first (by decide) (by first | rfl | (simp; done) | (simp; omega) | (simp; assumption)))
            · intro dn us w6 A hev hy hG hdn hdep K hK
              have d1 : dn 1 = true := allD_mem hdep (by decide)
              have e0 : A.eval (.tmp 7) = .int .i64 i := by rw [hev]; rfl
              have hg : us 1 = .bool true := hG.pre 1 d1
              rw [if_pos (by rw [hy]; show ((match us 1 with | .bool b => some b | _ => none) == some true) = true; rw [hg]; rfl)]
              unfold Oper.wp execOp
              generalize A.eval = ev at e0 ⊢
              go_simp
              exact hK _ _ (hG.first (by decide) (by first | rfl | (simp; done) | (simp; omega) | (simp; assumption)))
            · intro dn us w6 A hev hy hG hdn hdep K hK
              have d1 : dn 1 = true := allD_mem hdep (by decide)
              have d8 : dn 8 = true := allD_mem hdep (by decide)
              have d9 : dn 9 = true := allD_mem hdep (by decide)
              have e0 : A.eval (.tmp 31) = .slice (some ⟨pb, po, none⟩) pn pc := by rw [hev]; exact hG.pre 8 d8
              have e1 : A.eval (.tmp 32) = .int .i64 i := by rw [hev]; exact hG.pre 9 d9
              have hg : us 1 = .bool true := hG.pre 1 d1
              rw [if_pos (by rw [hy]; show ((match us 1 with | .bool b => some b | _ => none) == some true) = true; rw [hg]; rfl)]
              unfold Oper.wp execOp
              generalize A.eval = ev at e0 e1 ⊢
              go_simp
              exact hK _ _ (hG.first (by decide) (by first | rfl | (simp; done) | (simp; omega) | (simp; assumption)))
            · intro dn us w6 A hev hy hG hdn hdep K hK
              have d1 : dn 1 = true := allD_mem hdep (by decide)
              have d10 : dn 10 = true := allD_mem hdep (by decide)
              have e0 : A.eval (.tmp 33) = .pointer (some ⟨pb, po + i * 2, none⟩) := by rw [hev]; exact hG.pre 10 d10
              have hg : us 1 = .bool true := hG.pre 1 d1
              rw [if_pos (by rw [hy]; show ((match us 1 with | .bool b => some b | _ => none) == some true) = true; rw [hg]; rfl)]
              unfold Oper.wp execOp
              generalize A.eval = ev at e0 ⊢
              go_simp
              exact hK _ _ (hG.first (by decide) (by first | rfl | (simp; done) | (simp; omega) | (simp; assumption)))
            · intro dn us w6 A hev hy hG hdn hdep K hK
              have d1 : dn 1 = true := allD_mem hdep (by decide)
              have d11 : dn 11 = true := allD_mem hdep (by decide)
              have e0 : A.eval (.tmp 34) = .pointer (some ⟨pb, po + i * 2, none⟩) := by rw [hev]; exact hG.pre 11 d11
              have zp0 : w6.cell? ⟨pb, po + i * 2, none⟩ = some (.int .u64 p.1) := by rw [hG.below.cell (World.block_lt_of_cell? _ _ p0)]; exact p0
              have hg : us 1 = .bool true := hG.pre 1 d1
              rw [if_pos (by rw [hy]; show ((match us 1 with | .bool b => some b | _ => none) == some true) = true; rw [hg]; rfl)]
              unfold Oper.wp execOp
              generalize A.eval = ev at e0 ⊢
              go_simp
              exact hK _ _ (hG.first (by decide) (by first | rfl | (simp; done) | (simp; omega) | (simp; assumption)))
            · intro dn us w6 A hev hy hG hdn hdep K hK
              have d1 : dn 1 = true := allD_mem hdep (by decide)
              have d7 : dn 7 = true := allD_mem hdep (by decide)
              have d12 : dn 12 = true := allD_mem hdep (by decide)
              have e0 : A.eval (.tmp 30) = .int .u64 q.1 := by rw [hev]; exact hG.pre 7 d7
              have e1 : A.eval (.tmp 35) = .int .u64 p.1 := by rw [hev]; exact hG.pre 12 d12
              have hg : us 1 = .bool true := hG.pre 1 d1
              rw [if_pos (by rw [hy]; show ((match us 1 with | .bool b => some b | _ => none) == some true) = true; rw [hg]; rfl)]
              unfold Oper.wp execOp
              generalize A.eval = ev at e0 e1 ⊢
              go_simp
              exact hK _ _ (hG.first (by decide) (by first | rfl | (simp; done) | (simp; omega) | (simp; assumption)))
            · intro dn us w6 A hev hy hG hdn hdep K hK
              have d1 : dn 1 = true := allD_mem hdep (by decide)
              have d13 : dn 13 = true := allD_mem hdep (by decide)
              have e0 : A.eval (.tmp 24) = .bool true := by rw [hev]; exact hG.pre 1 d1
              have e1 : A.eval (.tmp 36) = .bool false := by rw [hev]; exact hG.pre 13 d13
              have e2 : A.eval (.const (.bool false)) = .bool false := by rw [hev]; rfl
              rw [if_pos (by rfl)]
              unfold Oper.wp execOp
              generalize A.eval = ev at e0 e1 e2 ⊢
              go_simp
              exact hK _ _ (hG.first (by decide) (by first | rfl | (simp; done) | (simp; omega) | (simp; assumption)))
            · intro dn us w6 A hev hy hG hdn hdep K hK
              have d14 : dn 14 = true := allD_mem hdep (by decide)
              have d0 : dn 0 = true := allD_mem hdep (by decide)
              have e0 : A.eval (.tmp 37) = .bool false := by rw [hev]; exact hG.pre 14 d14
              rw [if_pos (by rfl)]
              unfold Oper.wp execOp
              generalize A.eval = ev at e0 ⊢
              go_simp
              exact hK _ _ (hG.last d0 rfl)
            intro dn us wA hG hall
            have u15 : us 15 = .bool false := hG.pre 15 (hall 15 (by decide))
            have DA := hG.below
            simp only [fillA, fillT, Nat.reduceAdd, List.setIfInBounds_toArray, List.set_cons_zero, List.set_cons_succ, u15]
            clear hG hall u15
            go_wp2_with fail
            go_roundg (pn - i)
            case measure => omega
            case rel => exact ⟨i + 1, false, rfl, rfl, by omega, by omega, (fun e => (by have := hrise e; omega)), hb.trans (DA.mono hb.size)⟩
      · cases r with
        | true =>
          go_wp2_with fail
          go_ret
          exact ⟨rfl, D4.trans (hb.mono D4.size)⟩
        | false =>
          have hsf : sb = false := by
            cases sb with
            | false => rfl
            | true => exact (Bool.noConfusion (hr rfl))
          go_wp2_with (go_at_call 24; refine (lSound_any wr (H4.out.below hb)).mono ?_; rintro e w5 ⟨rfl, hb5⟩; rw [HSB.out, hsf])
          go_ret
          exact ⟨rfl, D4.trans ((hb.trans (hb5.mono hb.size)).mono D4.size)⟩
end Go.Proofs.Ytccmjljlfgbicaa

/- LookRises returns true for every scene: in a world that is sound the pairs' keys rise. No condition. -/
namespace Go.Proofs.Ytccmjljlfgbicaa.lookRises
open Go.ChangeShapes Go.WideShapes Go.ChangeAt Go.RowKit
set_option linter.unusedVariables false

theorem own : ownKnob Try.prog.godebug = none := by kernel_rfl
theorem laidOut : laidOutB Try.prog = true := by kernel_rfl

set_option maxRecDepth 100000 in
theorem lifted (os : Os) (started : os.Started) (H : Type) (enc : TypeId × Value → H) :
    ReturnsInHanded {} Try.checked os 6 .any (Rows.lookRisesSpec.pre6 enc Try.prog Try.f6 Rows.lookRisesRow.domain false) (Rows.lookRisesSpec.post enc Try.prog Try.f6 false true false false) := by
  refine returnsInHanded_of_change (C := Try.checked) own started (by kernel_rfl) Try.func6
    (ChangeSpec.witness6 (enc := enc) (C := Try.checked) false ⟨#[], #[.agg #[.int .u8 0, .slice none 0 0, .slice none 0 0]], []⟩ 12 (by kernel_rfl) (by kernel_rfl) (by kernel_rfl) (by kernel_rfl)) ?_
  intro W base args ds gs before hval0 hW hcnd _
  have hval : ∀ (j : Nat) t v, Try.f6.params[j]? = some t → args[j]? = some v → Value.okWide Try.prog W .any base t v := hval0
  have hW' := hW
  obtain ⟨p, q, hA0, hV, rfl, hfz, hnd⟩ := hW
  have hA : DataW.TrodAll enc Try.prog W 0 (fun _ => true) true Try.f6.params.toList args.toList ds p := hA0
  rw [Try.params6] at hA hval
  obtain ⟨v0, vs0, d0, ds0, p0, q0, hargs, rfl, rfl, h0, r0⟩ := trodAll_cons hA
  obtain ⟨rfl, rfl, rfl⟩ := trodAll_nil r0
  obtain rfl : args = #[v0] := by cases args; simp_all
  obtain ⟨rfl, rfl⟩ := trodVars_none hV
  obtain ⟨c0, ia0, ca0, ic0, cc0, hS0, hx0⟩ := open_scene (hval 0 _ v0 rfl rfl) h0
  clear hA0 hval0
  simp only [List.append_nil] at hW'
  refine (lookrises_walk W hx0 hS0).mono fun e W' ⟨he, hb⟩ => ?_
  subst he
  have hlt : ∀ y ∈ p0, y.block < W.heap.size := fun y hy => by simpa using hW'.lt y (by simpa using hy)
  exact ⟨_, rfl, post_new hW' hb (fun _ _ _ => trodAll_cons_mk (shut_bool Try.underlying4 _) trodAll_mk0)
    (fun sp hsp => by
      have := (trodAll_cons_mk (WideElems.Trod_stays laidOut (by kernel_rfl) (of_decide_eq_true (by kernel_rfl)) h0 (fun y hy => hb.same (hlt y hy)) (fun y hy => hsp y hy)) trodAll_mk0)
      simp only [List.append_nil] at this
      exact this)
    (fun _ => rfl) (ok_one (by kernel_rfl) rfl (okWide_bool_mk Try.underlying4 _))⟩

theorem over : Rows.lookRisesRow.holds Try.pinned (OpenSpec.ofChange Rows.lookRisesSpec) :=
  OpenClaim.holds_of_wide 6 Try.f6 rfl rfl rfl rfl rfl rfl rfl ⟨rfl, rfl, rfl, rfl, rfl⟩ rfl rfl rfl rfl rfl (by kernel_rfl) Try.func6 (by kernel_rfl)
    (of_decide_eq_true (by kernel_rfl)) (by unfold Func.isWrapper; first | (rw [if_pos (by decide +kernel)]; kernel_rfl) | (rw [if_neg (by decide +kernel)]; exact ⟨rfl, rfl⟩))
    (fun os started H enc _ => lifted os started H enc)

theorem proved : Rows.LookRisesSaid :=
  over
#print axioms proved
end Go.Proofs.Ytccmjljlfgbicaa.lookRises

