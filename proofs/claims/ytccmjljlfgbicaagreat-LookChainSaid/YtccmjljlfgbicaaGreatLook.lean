/- Contracts of look: the nodes of a bucket, for whoever ranges over them. -/
import Derived.Test.YtccmjljlfgbicaaGreatRange
import Derived.Test.YtccmjljlfgbicaaGreatNew
import Derived.Deep.LoopGhost
import Derived.Deep.Cut
namespace Go.Proofs.YtccmjljlfgbicaaGreat
open Go.ChangeShapes Go.WideShapes Go.ChangeAt Go.RowKit

/-- The node behind a place. -/
def St.follow (s : St) (at_ : Int) : Int := s.peek (s.nextAt at_) / 2
/-- The nodes behind a place, as many as there may be. -/
def St.behind (s : St) : Nat → Int → List Int
  | 0, _ => []
  | n + 1, at_ => if s.follow at_ = 0 then [] else s.follow at_ :: s.behind n (s.follow at_)
def St.headAt (s : St) (bucket : Int) : Int := atOr bucket s.c.buckets (1 + bucket)
/-- The nodes of a bucket. -/
def St.chain (s : St) (bucket : Int) : List Int := if s.headAt bucket < 0 then [] else s.behind s.c.nodes.toNat (s.headAt bucket)

theorem drop_cons {α : Type} {l m : List α} {i : Nat} {x : α} (h : l.drop i = x :: m) : l[i]? = some x ∧ l.drop (i + 1) = m ∧ i < l.length := by
  have hi : i < l.length := by
    rcases Nat.lt_or_ge i l.length with hi | hi
    · exact hi
    · rw [List.drop_eq_nil_of_le hi] at h; cases h
  rw [List.drop_eq_getElem_cons hi] at h
  injection h with h1 h2
  exact ⟨by rw [List.getElem?_eq_getElem hi, h1], h2, hi⟩
theorem drop_nil {α : Type} {l : List α} {i : Nat} (h : l.drop i = []) (hi : i ≤ l.length) : i = l.length := by
  have := List.drop_eq_nil_iff.1 h; omega

set_option maxRecDepth 100000 in
set_option maxHeartbeats 2000000 in
theorem nodes1_any {k : Blks} {s : St} (bucket : Int) (cw cb l : Nat) (w : World) (Inv : Nat → World → Prop) (Stop : World → Prop)
    (hI : ∀ j w', Inv j w' → Holds k s w' ∧ w'.cell? ⟨cw, 0, none⟩ = some (.pointer (some ⟨k.bw, 0, none⟩)))
    (hB : ∀ j w1 w2, Inv j w1 → Below w1.heap.size w1 w2 → Inv j w2)
    (hY : ∀ j n w', (s.chain bucket)[j]? = some n → Inv j w' → YieldsTo Tryz.prog l #[.int .i64 n] w' fun b w2 => if b then Inv (j + 1) w2 else Stop w2)
    (h0 : Inv 0 w) (q1 : w.cell? ⟨cb, 0, none⟩ = some (.int .i64 bucket)) :
    Calls Tryz.prog 166 #[.func (.yield l) #[] #[], .pointer (some ⟨cw, 0, none⟩), .pointer (some ⟨cb, 0, none⟩)] w fun e w' => e = .returned (.tuple #[]) ∧ (Stop w' ∨ Inv (s.chain bucket).length w') := by
  obtain ⟨h, q0⟩ := hI 0 w h0
  obtain ⟨⟨g0, g1, g2, g3, g4⟩, g5, g6, gl⟩ := h.wfacts
  have l0 := lt_of_cell q0
  have l1 := lt_of_cell q1
  have HM := Lib.hid h.ok.may
  have HB := Lib.hid hB
  have HY := Lib.hid hY
  have HI := Lib.hid hI
  clear hB hY hI
  go_enter Tryz.func166, Tryz.ntmps166
  go_wp2_with fail
  go_region_held3 (fun w' => w'.cell? ⟨cw, 0, none⟩ = some (.pointer (some ⟨k.bw, 0, none⟩)) ∧ w'.cell? ⟨cb, 0, none⟩ = some (.int .i64 bucket) ∧ w'.cell? ⟨k.bw, 0, none⟩ = some (.int .i64 s.c.threads) ∧ w'.cell? ⟨k.bw, 1, none⟩ = some (.int .i64 s.c.buckets) ∧ w'.cell? ⟨k.bw, 2, none⟩ = some (.int .i64 s.c.inserts) ∧ w'.cell? ⟨k.bw, 3, none⟩ = some (.int .i64 s.c.fuel) ∧ w'.cell? ⟨k.bw, 4, none⟩ = some (.int .i64 s.c.calls))
    (first
      | go_keep
      | (refine ⟨?_, ?_, ?_, ?_, ?_, ?_, ?_⟩ <;> (rw [hb2.cell (by simp; omega)]; go_simp)))
    ((go_at_call 71; refine (head_any s.c _ _ HM.out).mono ?_; rintro e w2 ⟨rfl, hb2⟩))
  all_goals
    have I2 : Inv 0 w2 := HB.out 0 _ _ h0 ((Below.refl _ _).drew.trans hb2)
    go_wp2_with (go_at_call 167; refine (cnodes_any s.c _).mono ?_; rintro e w3 ⟨rfl, hb3⟩)
  · have hneg : s.headAt bucket < 0 := by unfold St.headAt; omega
    refine bodyPost_ret (results_none rfl _ _ _) rfl ?_
    refine ⟨rfl, .inr ?_⟩
    have hc : s.chain bucket = [] := by unfold St.chain; rw [if_pos hneg]
    rw [hc]; exact I2
  · have hneg : ¬ s.headAt bucket < 0 := by unfold St.headAt; omega
    have I3 : Inv 0 w3 := HB.out 0 _ _ I2 hb3
    have hc : s.chain bucket = s.behind s.c.nodes.toNat (s.headAt bucket) := by unfold St.chain; rw [if_neg hneg]
    have hN := (nodes_bounds HM.out)
    have HC := Lib.hid hc
    clear hc hneg
    go_loopg [4, 18] s.c.nodes.toNat (fun g v4 v18 wr => ∃ (at_ : Int) (i : Nat), v4 = .int .i64 at_ ∧ v18 = .int .i64 i ∧ i + g = s.c.nodes.toNat ∧ i ≤ (s.chain bucket).length ∧ (s.chain bucket).drop i = s.behind g at_ ∧ Inv i wr)
    case atStart =>
      exact ⟨s.headAt bucket, 0, rfl, rfl, by omega, by omega, HC.out, I3⟩
    case round =>
      obtain ⟨at_, i, rfl, rfl, hi, hl, hd, hInv⟩ := hrel
      have HD := Lib.hid hd
      clear hd
      obtain ⟨hh, qq⟩ := HI.out _ _ hInv
      obtain ⟨⟨r0, r1, r2, r3, r4⟩, r5, r6, rl⟩ := hh.wfacts
      have rl0 := lt_of_cell qq
      have hpr := peek_range hh.ok (s.nextAt at_)
      have hf : 0 ≤ s.follow at_ ∧ s.follow at_ ≤ 9223372036854775807 := by unfold St.follow; omega
      go_wp2_with fail
      · go_region_held3 (fun w' => w'.cell? ⟨cw, 0, none⟩ = some (.pointer (some ⟨k.bw, 0, none⟩)) ∧ w'.cell? ⟨k.bw, 0, none⟩ = some (.int .i64 s.c.threads) ∧ w'.cell? ⟨k.bw, 1, none⟩ = some (.int .i64 s.c.buckets) ∧ w'.cell? ⟨k.bw, 2, none⟩ = some (.int .i64 s.c.inserts) ∧ w'.cell? ⟨k.bw, 3, none⟩ = some (.int .i64 s.c.fuel) ∧ w'.cell? ⟨k.bw, 4, none⟩ = some (.int .i64 s.c.calls) ∧ w'.cell? ⟨k.bw, 5, none⟩ = some (.pointer (some ⟨k.bc, 0, none⟩)))
          (first
            | go_keep
            | (refine ⟨?_, ?_, ?_, ?_, ?_, ?_, ?_⟩ <;> (rw [hb4.cell (by simp; omega)]; go_simp)))
          ((first | (go_at_call 103; refine (next_any s.c _ _).mono ?_; rintro e w4 ⟨rfl, hb4⟩) | (go_at_call 45; refine (peek_any _ _ (hh.cells' hb4)).mono ?_; rintro e w5 ⟨rfl, rfl⟩) | (go_at_call 70; refine (index_any _ _ hpr.1 hpr.2).mono ?_; rintro e w6 ⟨rfl, rfl⟩)))
        all_goals
          go_upto_region 5 with fail
        all_goals
          have I5 : Inv i w4 := HB.out i _ _ hInv ((Below.refl _ _).drew.trans hb4)
          by_cases hz : s.peek (s.nextAt at_) / 2 = 0
          · have hz' : (s.peek (s.nextAt at_) / 2 == 0) = true := by rw [beq_iff_eq]; exact hz
            refine wp_region_yield_k (l1 := [_, _, _, _, _]) (l2 := [_, _]) ?_
            intro K hK
            go_wp2_with fail
            refine wpListY_skip (by rfl) ?_
            refine wpListY_last (onlyN_tight _) _ ?_
            go_wp2_with fail
            refine ⟨rfl, ?_⟩
            go_wp2_with fail
            refine bodyPost_ret (results_none rfl _ _ _) rfl ?_
            have hb0 : s.behind gk at_ = [] := by cases gk with | zero => rfl | succ n => unfold St.behind; exact if_pos hz
            have he := HD.out
            rw [hb0] at he
            exact ⟨rfl, .inr (drop_nil he hl ▸ I5)⟩
          · have hz' : (s.peek (s.nextAt at_) / 2 == 0) = false := by rw [beq_eq_false_iff_ne]; exact hz
            refine wp_region_yield_k (l1 := [_, _, _, _, _]) (l2 := [_, _]) ?_
            intro K hK
            go_wp2_with fail
            refine wpListY_call (l := l) (vs := #[.int .i64 (s.follow at_)]) (by rfl) rfl rfl (by simp [Act.eval, St.follow]) ?_
            obtain ⟨n, rfl⟩ : ∃ n, gk = n + 1 := ⟨gk - 1, by omega⟩
            have hb0 : s.behind (n + 1) at_ = s.follow at_ :: s.behind n (s.follow at_) := by rw [St.behind]; exact if_neg hz
            have he := HD.out
            rw [hb0] at he
            obtain ⟨e1, e2, e3⟩ := drop_cons he
            have HE2 := Lib.hid e2
            refine (HY.out i _ _ e1 I5).mono ?_
            clear e1 e2 hb0 he
            rintro (_ | _) w7 hR
            · refine wpListY_last (onlyN_tight _) _ ?_
              go_wp2_with fail
              refine ⟨rfl, ?_⟩
              go_wp2_with fail
              refine bodyPost_ret (results_none rfl _ _ _) rfl ?_
              exact ⟨rfl, .inl hR⟩
            · refine wpListY_last (onlyN_tight _) _ ?_
              go_wp2_with fail
              refine ⟨rfl, ?_⟩
              go_wp2_with fail
              go_roundg n
              case measure => omega
              case rel => exact ⟨s.follow at_, i + 1, rfl, rfl, by omega, by omega, HE2.out, hR⟩
      · go_end0
        have hg : gk = 0 := by omega
        subst hg
        exact ⟨rfl, .inr (drop_nil HD.out hl ▸ hInv)⟩

end Go.Proofs.YtccmjljlfgbicaaGreat
