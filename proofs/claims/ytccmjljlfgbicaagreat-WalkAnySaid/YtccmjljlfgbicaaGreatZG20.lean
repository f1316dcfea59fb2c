/- Contracts of look: the nodes of a bucket, for whoever ranges over them. -/
import Derived.Test.YtccmjljlfgbicaaGreatZRange
import Derived.Test.YtccmjljlfgbicaaGreatZG7
import Derived.Deep.LoopGhost
import Derived.Deep.Cut
import Derived.Test.YtccmjljlfgbicaaGreatZG8
import Derived.Test.YtccmjljlfgbicaaGreatZG6
namespace Go.Proofs.YtccmjljlfgbicaaGreat
open Go.ChangeShapes Go.WideShapes Go.ChangeAt Go.RowKit

/-- The node behind a place. -/
def St.follow (s : St) (at_ : Int) : Int := s.peek (s.nextAt at_) / 2
/-- The nodes behind a place, as many as there may be. -/
def St.behind (s : St) : Nat → Int → List Int
  | 0, _ => []
  | n + 1, at_ => if s.follow at_ = 0 then [] else s.follow at_ :: s.behind n (s.follow at_)
def St.headAt (s : St) (bucket : Int) : Int := atOr bucket s.c.buckets (1 + bucket)
/-- The nodes of a bucket. -/
def St.chain (s : St) (bucket : Int) : List Int := if s.headAt bucket < 0 then [] else s.behind s.c.nodes.toNat (s.headAt bucket)

theorem drop_cons {α : Type} {l m : List α} {i : Nat} {x : α} (h : l.drop i = x :: m) : l[i]? = some x ∧ l.drop (i + 1) = m ∧ i < l.length := by
  have hi : i < l.length := by
    rcases Nat.lt_or_ge i l.length with hi | hi
    · exact hi
    · rw [List.drop_eq_nil_of_le hi] at h; cases h
  rw [List.drop_eq_getElem_cons hi] at h
  injection h with h1 h2
  exact ⟨by rw [List.getElem?_eq_getElem hi, h1], h2, hi⟩
theorem drop_nil {α : Type} {l : List α} {i : Nat} (h : l.drop i = []) (hi : i ≤ l.length) : i = l.length := by
  have := List.drop_eq_nil_iff.1 h; omega

set_option maxRecDepth 100000 in
set_option maxHeartbeats 2000000 in
theorem nodes1_any {k : Blks} {s : St} (bucket : Int) (cw cb l : Nat) (w : World) (Inv : Nat → World → Prop) (Stop : World → Prop)
    (hI : ∀ j w', Inv j w' → Holds k s w' ∧ w'.cell? ⟨cw, 0, none⟩ = some (.pointer (some ⟨k.bw, 0, none⟩)))
    (hB : ∀ j w1 w2, Inv j w1 → Below w1.heap.size w1 w2 → Inv j w2)
    (hY : ∀ j n w', (s.chain bucket)[j]? = some n → Inv j w' → YieldsTo Tryz.prog l #[.int .i64 n] w' fun b w2 => if b then Inv (j + 1) w2 else Stop w2)
    (h0 : Inv 0 w) (q1 : w.cell? ⟨cb, 0, none⟩ = some (.int .i64 bucket)) :
    Calls Tryz.prog 166 #[.func (.yield l) #[] #[], .pointer (some ⟨cw, 0, none⟩), .pointer (some ⟨cb, 0, none⟩)] w fun e w' => e = .returned (.tuple #[]) ∧ (Stop w' ∨ Inv (s.chain bucket).length w') := by
  obtain ⟨h, q0⟩ := hI 0 w h0
  obtain ⟨⟨g0, g1, g2, g3, g4⟩, g5, g6, gl⟩ := h.wfacts
  have l0 := lt_of_cell q0
  have l1 := lt_of_cell q1
  have HM := Lib.hid h.ok.may
  have HB := Lib.hid hB
  have HY := Lib.hid hY
  have HI := Lib.hid hI
  clear hB hY hI
  go_enter Tryz.func166, Tryz.ntmps166
  go_wp2_with fail
  go_region_held3 (fun w' => w'.cell? ⟨cw, 0, none⟩ = some (.pointer (some ⟨k.bw, 0, none⟩)) ∧ w'.cell? ⟨cb, 0, none⟩ = some (.int .i64 bucket) ∧ w'.cell? ⟨k.bw, 0, none⟩ = some (.int .i64 s.c.threads) ∧ w'.cell? ⟨k.bw, 1, none⟩ = some (.int .i64 s.c.buckets) ∧ w'.cell? ⟨k.bw, 2, none⟩ = some (.int .i64 s.c.inserts) ∧ w'.cell? ⟨k.bw, 3, none⟩ = some (.int .i64 s.c.fuel) ∧ w'.cell? ⟨k.bw, 4, none⟩ = some (.int .i64 s.c.calls))
    (first
      | go_keep
      | (refine ⟨?_, ?_, ?_, ?_, ?_, ?_, ?_⟩ <;> (rw [hb2.cell (by simp; omega)]; go_simp)))
    ((go_at_call 71; refine (head_any s.c _ _ HM.out).mono ?_; rintro e w2 ⟨rfl, hb2⟩))
  all_goals
    have I2 : Inv 0 w2 := HB.out 0 _ _ h0 ((Below.refl _ _).drew.trans hb2)
    go_wp2_with (go_at_call 167; refine (cnodes_any s.c _).mono ?_; rintro e w3 ⟨rfl, hb3⟩)
  · have hneg : s.headAt bucket < 0 := by unfold St.headAt; omega
    refine bodyPost_ret (results_none rfl _ _ _) rfl ?_
    refine ⟨rfl, .inr ?_⟩
    have hc : s.chain bucket = [] := by unfold St.chain; rw [if_pos hneg]
    rw [hc]; exact I2
  · have hneg : ¬ s.headAt bucket < 0 := by unfold St.headAt; omega
    have I3 : Inv 0 w3 := HB.out 0 _ _ I2 hb3
    have hc : s.chain bucket = s.behind s.c.nodes.toNat (s.headAt bucket) := by unfold St.chain; rw [if_neg hneg]
    have hN := (nodes_bounds HM.out)
    have HC := Lib.hid hc
    clear hc hneg
    go_loopg [4, 18] s.c.nodes.toNat (fun g v4 v18 wr => ∃ (at_ : Int) (i : Nat), v4 = .int .i64 at_ ∧ v18 = .int .i64 i ∧ i + g = s.c.nodes.toNat ∧ i ≤ (s.chain bucket).length ∧ (s.chain bucket).drop i = s.behind g at_ ∧ Inv i wr)
    case atStart =>
      exact ⟨s.headAt bucket, 0, rfl, rfl, by omega, by omega, HC.out, I3⟩
    case round =>
      obtain ⟨at_, i, rfl, rfl, hi, hl, hd, hInv⟩ := hrel
      have HD := Lib.hid hd
      clear hd
      obtain ⟨hh, qq⟩ := HI.out _ _ hInv
      obtain ⟨⟨r0, r1, r2, r3, r4⟩, r5, r6, rl⟩ := hh.wfacts
      have rl0 := lt_of_cell qq
      have hpr := peek_range hh.ok (s.nextAt at_)
      have hf : 0 ≤ s.follow at_ ∧ s.follow at_ ≤ 9223372036854775807 := by unfold St.follow; omega
      go_wp2_with fail
      · go_region_held3 (fun w' => w'.cell? ⟨cw, 0, none⟩ = some (.pointer (some ⟨k.bw, 0, none⟩)) ∧ w'.cell? ⟨k.bw, 0, none⟩ = some (.int .i64 s.c.threads) ∧ w'.cell? ⟨k.bw, 1, none⟩ = some (.int .i64 s.c.buckets) ∧ w'.cell? ⟨k.bw, 2, none⟩ = some (.int .i64 s.c.inserts) ∧ w'.cell? ⟨k.bw, 3, none⟩ = some (.int .i64 s.c.fuel) ∧ w'.cell? ⟨k.bw, 4, none⟩ = some (.int .i64 s.c.calls) ∧ w'.cell? ⟨k.bw, 5, none⟩ = some (.pointer (some ⟨k.bc, 0, none⟩)))
          (first
            | go_keep
            | (refine ⟨?_, ?_, ?_, ?_, ?_, ?_, ?_⟩ <;> (rw [hb4.cell (by simp; omega)]; go_simp)))
          ((first | (go_at_call 103; refine (next_any s.c _ _).mono ?_; rintro e w4 ⟨rfl, hb4⟩) | (go_at_call 45; refine (peek_any _ _ (hh.cells' hb4)).mono ?_; rintro e w5 ⟨rfl, rfl⟩) | (go_at_call 70; refine (index_any _ _ hpr.1 hpr.2).mono ?_; rintro e w6 ⟨rfl, rfl⟩)))
        all_goals
          go_upto_region 5 with fail
        all_goals
          have I5 : Inv i w4 := HB.out i _ _ hInv ((Below.refl _ _).drew.trans hb4)
          by_cases hz : s.peek (s.nextAt at_) / 2 = 0
          · have hz' : (s.peek (s.nextAt at_) / 2 == 0) = true := by rw [beq_iff_eq]; exact hz
            refine wp_region_yield_k (l1 := [_, _, _, _, _]) (l2 := [_, _]) ?_
            intro K hK
            go_wp2_with fail
            refine wpListY_skip (by rfl) ?_
            refine wpListY_last (onlyN_tight _) _ ?_
            go_wp2_with fail
            refine ⟨rfl, ?_⟩
            go_wp2_with fail
            refine bodyPost_ret (results_none rfl _ _ _) rfl ?_
            have hb0 : s.behind gk at_ = [] := by cases gk with | zero => rfl | succ n => unfold St.behind; exact if_pos hz
            have he := HD.out
            rw [hb0] at he
            exact ⟨rfl, .inr (drop_nil he hl ▸ I5)⟩
          · have hz' : (s.peek (s.nextAt at_) / 2 == 0) = false := by rw [beq_eq_false_iff_ne]; exact hz
            refine wp_region_yield_k (l1 := [_, _, _, _, _]) (l2 := [_, _]) ?_
            intro K hK
            go_wp2_with fail
            refine wpListY_call (l := l) (vs := #[.int .i64 (s.follow at_)]) (by rfl) rfl rfl (by simp [Act.eval, St.follow]) ?_
            obtain ⟨n, rfl⟩ : ∃ n, gk = n + 1 := ⟨gk - 1, by omega⟩
            have hb0 : s.behind (n + 1) at_ = s.follow at_ :: s.behind n (s.follow at_) := by rw [St.behind]; exact if_neg hz
            have he := HD.out
            rw [hb0] at he
            obtain ⟨e1, e2, e3⟩ := drop_cons he
            have HE2 := Lib.hid e2
            refine (HY.out i _ _ e1 I5).mono ?_
            clear e1 e2 hb0 he
            rintro (_ | _) w7 hR
            · refine wpListY_last (onlyN_tight _) _ ?_
              go_wp2_with fail
              refine ⟨rfl, ?_⟩
              go_wp2_with fail
              refine bodyPost_ret (results_none rfl _ _ _) rfl ?_
              exact ⟨rfl, .inl hR⟩
            · refine wpListY_last (onlyN_tight _) _ ?_
              go_wp2_with fail
              refine ⟨rfl, ?_⟩
              go_wp2_with fail
              go_roundg n
              case measure => omega
              case rel => exact ⟨s.follow at_, i + 1, rfl, rfl, by omega, by omega, HE2.out, hR⟩
      · go_end0
        have hg : gk = 0 := by omega
        subst hg
        exact ⟨rfl, .inr (drop_nil HD.out hl ▸ hInv)⟩

end Go.Proofs.YtccmjljlfgbicaaGreat

/- The scene that is awake (chapter 10): pure. -/
namespace Go.Proofs.YtccmjljlfgbicaaGreat
open Go.ChangeShapes Go.WideShapes Go.ChangeAt Go.RowKit

/-- Steps of a walk that nobody disturbs. -/
def walkIter : Nat → St × Walk → St × Walk
  | 0, p => p
  | n + 1, p => (walkIter n p).1.walkStep (walkIter n p).2
theorem walkIter_zero (p : St × Walk) : walkIter 0 p = p := rfl
theorem walkIter_next {n : Nat} {p : St × Walk} {s : St} {x : Walk} (h : walkIter n p = (s, x)) : walkIter (n + 1) p = ((s.walkStep x).1, (s.walkStep x).2) := by rw [walkIter, h]
def awScene : Scene := ⟨0, [⟨1, 0, 2, false, false⟩, ⟨3, 0, 0, false, false⟩], []⟩
def awStart : St × Walk := (awScene.lay, Walk.new 3 1)
/-- As walkIter, from the front. -/
def walkRun : Nat → St × Walk → St × Walk
  | 0, p => p
  | n + 1, p => walkRun n (p.1.walkStep p.2)
theorem walkRun_iter (n : Nat) : ∀ p, walkRun n p = walkIter n p := by
  have h : ∀ n p, walkIter n (p.1.walkStep p.2) = walkIter (n + 1) p := by
    intro n
    induction n with
    | zero => intro p; rfl
    | succ n ih => intro p; rw [walkIter, ih]; rfl
  induction n with
  | zero => intro p; rfl
  | succ n ih => intro p; rw [walkRun, ih, h]
set_option maxRecDepth 100000 in
theorem aw_pure' : (walkRun 20 awStart).2.done = true ∧ (walkRun 20 awStart).2.stop = false ∧ (walkRun 20 awStart).2.curr = 0 ∧ (walkRun 20 awStart).2.seen = 1 ∧
    (walkRun 20 awStart).1.peek ((walkRun 20 awStart).1.wordAt 1) = 1 ∧ (((walkRun 20 awStart).1.load ((walkRun 20 awStart).1.wordAt 1)).chain 0).length = 1 ∧ ((walkRun 20 awStart).1.load ((walkRun 20 awStart).1.wordAt 1)).steps = 17 := by decide +kernel

end Go.Proofs.YtccmjljlfgbicaaGreat

/- Contract of lay: the world of a scene. -/
namespace Go.Proofs.YtccmjljlfgbicaaGreat
open Go.ChangeShapes Go.WideShapes Go.ChangeAt Go.RowKit

set_option maxRecDepth 100000 in
set_option maxHeartbeats 4000000 in
theorem lay10_any {x : Scene} {v : Value} {ia ca : Option Addr} {ic cc : Nat} (w : World) (hx : x.fits) (hlen : x.items.length ≤ 12) (hcl : x.calls.length ≤ 6) (hS : SceneAt w v x ia ca ic cc) :
    Calls Tryz.prog 26 #[v] w fun e w' => ∃ k : Blks, e = .returned (.pointer (some ⟨k.bw, 0, none⟩)) ∧ Holds k x.lay w' ∧ (∀ i, (i = k.bw ∨ i = k.bb ∨ Own k i) → w.heap.size ≤ i) ∧ Below w.heap.size w w' := by
  obtain ⟨rfl, hI, hC⟩ := hS
  have HX := Lib.hid hx
  have HC := Lib.hid hC
  have HI := Lib.hid hI
  have HF := Lib.hid hx.fuel
  clear hx hC hI
  go_enter Tryz.func26, Tryz.ntmps26
  go_wp2_with (first
    | (go_at_call 55; refine (sconf_any _ HF.out).mono ?_; rintro e w1 ⟨rfl, hb1⟩)
    | (go_at_call 54; refine (wnew_yes x.conf w1 (conf_may HF.out)).mono ?_; rintro e w2 ⟨k, rfl, hH, hK, hb2⟩; obtain ⟨c0, c1, c2⟩ := scene_cells (hb1.trans (hb2.mono hb1.size)))
    | (go_at_call 56; refine (sorted_any w2 (HI.out.below (((Below.refl _ w).alloc (Nat.le_refl _) _).trans ((hb1.trans (hb2.mono hb1.size)).mono (by simp)))) hlen).mono ?_; rintro e w5 ⟨v5, rfl, hR5, hb5⟩; obtain ⟨ao, vc, rfl, hao⟩ := row_any hR5))
  have hB5 : Below w.heap.size w w5 := ((Below.refl _ w).alloc (Nat.le_refl _) _).trans ((hb1.trans ((hb2.mono hb1.size).trans (hb5.mono (by have := hb1.size; have := hb2.size; omega)))).mono (by simp))
  have hH5 := hH.below hb5
  have hsz : w.heap.size < w1.heap.size := by have := hb1.size; simp at this; omega
  have hK' : ∀ i, (i = k.bw ∨ i = k.bb ∨ Own k i) → w.heap.size < i := fun i hi => by have := hK i hi; omega
  have hao' : 0 < x.items.length → ∃ g, ao = some ⟨g, 0, none⟩ ∧ ¬ Own k g ∧ g < w5.heap.size := fun h0 => by
    obtain ⟨g, h1, h2, h3⟩ := hao h0
    exact ⟨g, h1, hH.fresh h2, h3⟩
  have hnw : ¬ Own k w.heap.size := fun e => by have := hK' _ (.inr (.inr e)); omega
  have HB5 := Lib.hid hB5
  have HK := Lib.hid hK'
  have HR5 := Lib.hid hR5
  have HAO := Lib.hid hao'
  have lw5 : w.heap.size < w5.heap.size := by have := hb2.size; have := hb5.size; omega
  obtain ⟨c0, c1, c2⟩ := scene_cells (hb1.trans ((hb2.mono hb1.size).trans (hb5.mono (by have := hb1.size; have := hb2.size; omega))))
  clear hB5 hK' hK hR5 hao hao' hb1 hb2 hb5 hH
  go_loopg [6, 7, 8] x.items.length (fun gg v6 v7 v8 wr => ∃ i : Nat, v8 = .int .i64 i ∧ i + gg = x.items.length ∧ ∃ s at_ op, (x.sorted.take i).foldl layItem (St.new x.conf, 1, 0) = (s, at_, op) ∧ v6 = .int .i64 at_ ∧ v7 = .int .i64 op ∧ Holds k s wr ∧ Only (Own k) w5 wr)
  case atStart => exact ⟨0, rfl, by omega, _, _, _, rfl, rfl, rfl, hH5, Only.refl _ _⟩
  case round =>
    obtain ⟨i, rfl, hi, s, at_, op, hs, rfl, rfl, hH, hO⟩ := hrel
    have d2 : wr.cell? ⟨w.heap.size, 2, none⟩ = some (.slice ca x.calls.length cc) := by rw [hO.cell lw5 hnw]; exact c2
    by_cases hlt : i < x.items.length
    · obtain ⟨it, hit⟩ : ∃ it, x.sorted[i]? = some it := ⟨_, List.getElem?_eq_getElem (by rw [sorted_len]; exact hlt)⟩
      obtain ⟨g, rfl, hgo, hgl⟩ := HAO.out (by omega)
      obtain ⟨n0, n1, n2, n3, n4⟩ := row_item HR5.out hO hgo hit
      have HIT := Lib.hid hit
      have HS := Lib.hid hs
      have HFT := Lib.hid (sorted_fits HX.out.items it (List.mem_of_getElem? hit))
      clear hit hs
      obtain ⟨_, g5, g6, gl⟩ := hH.wfacts
      cases hag : it.again with
      | true =>
        have HL := Lib.hid (show s.layOp op it = (s, op) by unfold St.layOp; rw [if_pos hag])
        rw [hag] at n4
        clear hag
        go_wp2_with (first
          | (go_at_call 58; refine (make_any 0 op _ hH).mono ?_; rintro e w6 ⟨rfl, hH6, hO6⟩; obtain ⟨_, f5, f6, fl⟩ := hH6.wfacts)
          | (go_at_call 45; refine (peek_any at_ _ hH6.cells).mono ?_; rintro e w7 ⟨rfl, rfl⟩)
          | (go_at_call 61; refine (rmarked_any _ _ (peek_range hH6.ok at_).1 (peek_range hH6.ok at_).2).mono ?_; rintro e w7 ⟨rfl, rfl⟩)
          | (go_at_call 60; refine (rpack_any _ _ _).mono ?_; rintro e w7 ⟨rfl, rfl⟩)
          | (go_at_call 59; refine (wset_any _ _ w6 hH6 (refOf_u64 _ _)).mono ?_; rintro e w8 ⟨rfl, hH8, hO8⟩; obtain ⟨m0, m1, m2, m3, m4⟩ := row_item HR5.out ((hO.trans hO6).trans hO8) hgo HIT.out)
          | (go_at_call 59; refine (wset_any _ _ w8 hH8 (refOf_u64 _ _)).mono ?_; rintro e w9 ⟨rfl, hH9, hO9⟩))
        go_roundg (x.items.length - (i + 1))
        case measure => omega
        case rel =>
          refine ⟨i + 1, rfl, by omega, _, _, _, (take_next HIT.out _).trans (congrArg (fun p => layItem p it) HS.out), ?_⟩
          simp only [HL.out]
          exact ⟨by first | rfl | trivial, by first | trivial | rfl, hH9, ((hO.trans hO6).trans hO8).trans hO9⟩
      | false =>
        have HL := Lib.hid (show s.layOp op it = ((s.begin 0 ⟨1, it.key, it.val, 0⟩).1.swap ((s.begin 0 ⟨1, it.key, it.val, 0⟩).1.wordAt (s.begin 0 ⟨1, it.key, it.val, 0⟩).2.1) 0 it.word, (s.begin 0 ⟨1, it.key, it.val, 0⟩).2.1) by unfold St.layOp; rw [if_neg (by rw [hag]; decide)])
        rw [hag] at n4
        clear hag
        have hcf : (⟨1, it.key, it.val, 0⟩ : GCall).fits := ⟨HFT.out.1.1, HFT.out.1.2, HFT.out.2.1.1, HFT.out.2.1.2⟩
        have HCF := Lib.hid hcf
        clear hcf
        have hgw : g < wr.heap.size := Nat.lt_of_lt_of_le hgl hO.size
        have hnb : ¬ Own k k.bw := hH.ne_w
        go_wp2_with fail
        go_region_held3 (fun w' => w'.cell? ⟨k.bw, 6, none⟩ = some (.pointer (some ⟨k.bb, 0, none⟩)) ∧ w'.cell? ⟨g, i * 5, none⟩ = some (.int .u64 it.key) ∧ w'.cell? ⟨g, i * 5 + 1, none⟩ = some (.int .u64 it.val))
          (first
            | go_keep
            | (refine ⟨?_, ?_, ?_⟩ <;> (rw [hOb.cell (by first | exact gl | exact hgw) (by first | exact hnb | exact hgo)]; assumption)))
          ((go_at_call 57; refine (begin_any 0 ⟨1, it.key, it.val, 0⟩ _ hH.drew HCF.out).mono ?_; rintro e wb ⟨rfl, hHb, hOb⟩))
        obtain ⟨_, b5, b6, bl⟩ := hHb.wfacts
        obtain ⟨p0, p1, p2, p3, p4⟩ := row_item HR5.out (hO.drew.trans hOb) hgo HIT.out
        go_wp2_with (first
          | (go_at_call 47; refine (wturn_any _ _ _ _ hHb HFT.out.2.2).mono ?_; rintro e wt ⟨rfl, hHt, hOt0⟩; have hOt := (hO.drew.trans hOb).trans hOt0; obtain ⟨_, t5, t6, tl⟩ := hHt.wfacts)
          | (go_at_call 58; refine (make_any 0 (s.begin 0 ⟨1, it.key, it.val, 0⟩).2.1 _ hHt).mono ?_; rintro e w6 ⟨rfl, hH6, hO6⟩; obtain ⟨_, f5, f6, fl⟩ := hH6.wfacts)
          | (go_at_call 45; refine (peek_any at_ _ hH6.cells).mono ?_; rintro e w7 ⟨rfl, rfl⟩)
          | (go_at_call 61; refine (rmarked_any _ _ (peek_range hH6.ok at_).1 (peek_range hH6.ok at_).2).mono ?_; rintro e w7 ⟨rfl, rfl⟩)
          | (go_at_call 60; refine (rpack_any _ _ _).mono ?_; rintro e w7 ⟨rfl, rfl⟩)
          | (go_at_call 59; refine (wset_any _ _ w6 hH6 (refOf_u64 _ _)).mono ?_; rintro e w8 ⟨rfl, hH8, hO8⟩; obtain ⟨m0, m1, m2, m3, m4⟩ := row_item HR5.out ((hOt.trans hO6).trans hO8) hgo HIT.out)
          | (go_at_call 59; refine (wset_any _ _ w8 hH8 (refOf_u64 _ _)).mono ?_; rintro e w9 ⟨rfl, hH9, hO9⟩))
        go_roundg (x.items.length - (i + 1))
        case measure => omega
        case rel =>
          refine ⟨i + 1, rfl, by omega, _, _, _, (take_next HIT.out _).trans (congrArg (fun p => layItem p it) HS.out), ?_⟩
          simp only [HL.out]
          exact ⟨by first | rfl | trivial, by first | trivial | rfl, hH9, ((hOt.trans hO6).trans hO8).trans hO9⟩
    · have e : i = x.items.length := by omega
      rw [e, ← sorted_len, List.take_length] at hs
      have HS := Lib.hid (show (St.new x.conf).layItems x.sorted = (s, at_, op) from hs)
      clear hs e
      have HOs := Lib.hid hO
      have HHs := Lib.hid hH
      have HL := Lib.hid (show x.lay = s.layCalls x.calls by unfold Scene.lay; rw [HS.out])
      clear hO hH
      go_wp2_with fail
      go_loopg [14] x.calls.length (fun gg v14 wc => ∃ j : Nat, v14 = .int .i64 j ∧ j + gg = x.calls.length ∧ Holds k (s.layCalls (x.calls.take j)) wc ∧ Only (Own k) w5 wc)
      case atStart => exact ⟨0, rfl, by omega, HHs.out, HOs.out⟩
      case round =>
        obtain ⟨j, rfl, hj, hH, hO⟩ := hrel
        have d2 : wr.cell? ⟨w.heap.size, 2, none⟩ = some (.slice ca x.calls.length cc) := by rw [hO.cell lw5 hnw]; exact c2
        have lwr : w.heap.size < wr.heap.size := Nat.lt_of_lt_of_le lw5 hO.size
        by_cases hlt : j < x.calls.length
        · obtain ⟨it, hit⟩ : ∃ it, x.calls[j]? = some it := ⟨_, List.getElem?_eq_getElem hlt⟩
          have hBr : Below w.heap.size w wr := HB5.out.trans (hO.below (by omega) fun i hi hn => by have := HK.out i (.inr (.inr hn)); omega)
          obtain ⟨b, o, rfl, lb, n0, n1, n2, n3⟩ := call_read (HC.out.below hBr) hit
          have hbo : ¬ Own k b := fun e => by
            have := HK.out b (.inr (.inr e))
            obtain ⟨b', o', he, hlt', _⟩ := call_read HC.out hit
            injection he with he; injection he with he1 he2; omega
          have HIT := Lib.hid hit
          have HFT := Lib.hid (HX.out.calls it (List.mem_of_getElem? hit))
          clear hit
          obtain ⟨_, g5, g6, gl⟩ := hH.wfacts
          have hnb : ¬ Own k k.bw := hH.ne_w
          go_wp2_with fail
          go_region_held3 (fun w' => w'.cell? ⟨k.bw, 6, none⟩ = some (.pointer (some ⟨k.bb, 0, none⟩)) ∧ w'.cell? ⟨w.heap.size, 2, none⟩ = some (.slice (some ⟨b, o, none⟩) x.calls.length cc) ∧ w'.cell? ⟨b, o + j * 4, none⟩ = some (.int .i64 it.kind) ∧ w'.cell? ⟨b, o + j * 4 + 1, none⟩ = some (.int .u64 it.key) ∧ w'.cell? ⟨b, o + j * 4 + 2, none⟩ = some (.int .u64 it.val) ∧ w'.cell? ⟨b, o + j * 4 + 3, none⟩ = some (.int .i64 it.limit))
            (first
              | go_keep
              | (refine ⟨?_, ?_, ?_, ?_, ?_, ?_⟩ <;> (rw [hOb.cell (by first | exact gl | exact lwr | exact lb) (by first | exact hnb | exact hnw | exact hbo)]; assumption)))
            ((go_at_call 57; refine (begin_any 2 it _ hH.drew HFT.out).mono ?_; rintro e wb ⟨rfl, hHb, hOb⟩))
          go_wp2_with fail
          go_roundg (x.calls.length - (j + 1))
          case measure => omega
          case rel =>
            refine ⟨j + 1, rfl, by omega, ?_, hO.drew.trans hOb⟩
            rw [calls_next HIT.out]
            exact hHb
        · have e : j = x.calls.length := by omega
          rw [e, List.take_length] at hH
          have HH := Lib.hid hH
          clear hH e
          go_wp2_with fail
          go_ret
          refine ⟨k, rfl, by rw [HL.out]; exact HH.out, fun i hi => Nat.le_of_lt (HK.out i hi), HB5.out.trans (hO.below (by omega) fun i hi hn => by have := HK.out i (.inr (.inr hn)); omega)⟩

end Go.Proofs.YtccmjljlfgbicaaGreat

