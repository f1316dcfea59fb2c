/- Contract of corrieref07.Begin, whole. -/
import Derived.Test.YtccmjljlfgbicaaGreatZRefY
import Derived.Test.YtccmjljlfgbicaaGreatZRefZ
import Derived.Test.YtccmjljlfgbicaaGreatZRefZA
namespace Go.Proofs.YtccmjljlfgbicaaGreat
open Go.ChangeShapes Go.WideShapes Go.ChangeAt Go.RowKit

theorem thr_map {l : List Thr} {i : Nat} {t t' : Thr} (ht : l[i]? = some t) (f : Thr → Int) (hf : f t' = f t) : (l.set i t').map f = l.map f := by
  have hi : i < l.length := (List.getElem?_eq_some_iff.1 ht).1
  rw [List.map_set, hf]
  apply List.ext_getElem?
  intro j
  by_cases hj : i = j
  · subst hj; rw [List.getElem?_set_self (by simpa using hi)]; simp [ht]
  · rw [List.getElem?_set_ne hj]
theorem rows_snoc {w : World} {g : Nat} {l : List (Int × GCall)} {p : Int × GCall} (h : ReadAt w (some ⟨g, 0, none⟩) (opRows l ++ opRow p)) : ReadAt w (some ⟨g, 0, none⟩) (opRows (l ++ [p])) := by
  unfold opRows at *
  rw [List.flatMap_append]
  simpa using h

/-- corrieref07.Begin. -/
theorem rbegin_any {r : RV} {s : St} (n : Int) (c : GCall) (w : World) (h : BookIn w r s) (hok : s.ok) (hos : s.ops.length ≤ 4090) :
    Calls Tryz.prog 63 #[r.book s, .int .i64 n, c.v] w fun e w' => ∃ r' : RV, e = .returned (.tuple #[r'.book (s.begin n c).1, .int .i64 (s.begin n c).2.1, .int .i64 (s.begin n c).2.2]) ∧ BookIn w' r' (s.begin n c).1 ∧ Below w.heap.size w w' ∧ BookFr w.heap.size r r' := by
  unfold St.begin
  rcases thrAt_cases s.thr n with ⟨i, t, rfl, hi, ht, hta⟩ | ⟨hta, hn⟩
  · rw [hta]
    dsimp only
    split
    · rename_i hk
      exact (rbegin_kind (r := r) (s := s) i c w (by unfold inTop; simp; omega) hk).mono fun e w' ⟨a, b⟩ => ⟨r, a, h.below b, b, BookFr.refl _ _⟩
    rename_i hk
    have hk' : 1 ≤ c.kind ∧ c.kind ≤ 4 := by omega
    split
    · rename_i hf
      exact (rbegin_retired i t c w h hok ht hk' hf).mono fun e w' ⟨a, b⟩ => ⟨r, a, h.below b, b, BookFr.refl _ _⟩
    rename_i hf
    have ei : ((i : Int)).toNat = i := rfl
    split
    · rename_i hki
      obtain ⟨kind, key, val, limit⟩ := c
      obtain ⟨rfl, hin⟩ := hki
      refine (rbegin_full i t key val limit w h hok ht hf hin).mono fun e w' ⟨g1, c1, a, b1, b3, l1⟩ => ⟨{ r with cs := (some ⟨g1, 0, none⟩, c1) }, ?_, ?_, b3, ⟨.inr ⟨g1, rfl, l1⟩, .inl rfl, .inl rfl, .inl rfl, .inl rfl⟩⟩
      · rw [a]
        simp [RV.book]
      · have hb := h.below b3
        refine ⟨?_, ?_, ?_, hb.os, hb.ns, hb.os0, hb.ns0⟩
        · show ReadAt w' (some ⟨g1, 0, none⟩) (intsV ((s.thr.set i { t with calls := t.calls + 1 }).map Thr.calls))
          rw [List.map_set]; exact b1
        · show ReadAt w' r.is.1 (intsV ((s.thr.set i { t with calls := t.calls + 1 }).map Thr.inserts))
          rw [thr_map (t' := { t with calls := t.calls + 1 }) ht Thr.inserts rfl]; exact hb.is
        · show ReadAt w' r.ms.1 (intsV ((s.thr.set i { t with calls := t.calls + 1 }).map Thr.made))
          rw [thr_map (t' := { t with calls := t.calls + 1 }) ht Thr.made rfl]; exact hb.ms
    rename_i hki
    by_cases hk1 : c.kind = 1
    · obtain ⟨kind, key, val, limit⟩ := c
      have hk1' : kind = 1 := hk1
      subst hk1'
      have hin : t.inserts ≠ s.c.inserts := fun e => hki ⟨rfl, e⟩
      refine (rbegin_insert i t key val limit w h hok hos ht hf hin).mono fun e w' ⟨g1, c1, g5, c5, g2, c2, a, b1, b5, b2, b3, l1, l5, l2⟩ => ⟨{ r with cs := (some ⟨g1, 0, none⟩, c1), is := (some ⟨g5, 0, none⟩, c5), os := (some ⟨g2, 0, none⟩, c2) }, ?_, ?_, b3, ⟨.inr ⟨g1, rfl, l1⟩, .inr ⟨g5, rfl, l5⟩, .inl rfl, .inr ⟨g2, rfl, l2⟩, .inl rfl⟩⟩
      · rw [a]
        simp [RV.book]
      · have hb := h.below b3
        refine ⟨?_, ?_, ?_, rows_snoc b2, hb.ns, fun e => absurd e (by simp), hb.ns0⟩
        · show ReadAt w' (some ⟨g1, 0, none⟩) (intsV ((s.thr.set i _).map Thr.calls))
          rw [List.map_set]; exact b1
        · show ReadAt w' (some ⟨g5, 0, none⟩) (intsV ((s.thr.set i { t with calls := t.calls + 1, inserts := if (1 : Int) = 1 then t.inserts + 1 else t.inserts }).map Thr.inserts))
          rw [List.map_set]; exact b5
        · show ReadAt w' r.ms.1 (intsV ((s.thr.set i { t with calls := t.calls + 1, inserts := if (1 : Int) = 1 then t.inserts + 1 else t.inserts }).map Thr.made))
          rw [thr_map (t' := { t with calls := t.calls + 1, inserts := if (1 : Int) = 1 then t.inserts + 1 else t.inserts }) ht Thr.made rfl]; exact hb.ms
    · refine (rbegin_other i t c w h hok hos ht hk' hf hk1).mono fun e w' ⟨g1, c1, g2, c2, a, b1, b2, b3, l1, l2⟩ => ⟨{ r with cs := (some ⟨g1, 0, none⟩, c1), os := (some ⟨g2, 0, none⟩, c2) }, ?_, ?_, b3, ⟨.inr ⟨g1, rfl, l1⟩, .inl rfl, .inl rfl, .inr ⟨g2, rfl, l2⟩, .inl rfl⟩⟩
      · rw [a]
        simp [RV.book]
      · have hb := h.below b3
        refine ⟨?_, ?_, ?_, rows_snoc b2, hb.ns, fun e => absurd e (by simp), hb.ns0⟩
        · show ReadAt w' (some ⟨g1, 0, none⟩) (intsV ((s.thr.set i _).map Thr.calls))
          rw [List.map_set]; exact b1
        · show ReadAt w' r.is.1 (intsV ((s.thr.set i { t with calls := t.calls + 1, inserts := if c.kind = 1 then t.inserts + 1 else t.inserts }).map Thr.inserts))
          rw [thr_map (t' := { t with calls := t.calls + 1, inserts := if c.kind = 1 then t.inserts + 1 else t.inserts }) ht Thr.inserts (by simp [hk1])]; exact hb.is
        · show ReadAt w' r.ms.1 (intsV ((s.thr.set i { t with calls := t.calls + 1, inserts := if c.kind = 1 then t.inserts + 1 else t.inserts }).map Thr.made))
          rw [thr_map (t' := { t with calls := t.calls + 1, inserts := if c.kind = 1 then t.inserts + 1 else t.inserts }) ht Thr.made rfl]; exact hb.ms
  · rw [hta]
    exact (rbegin_thread (r := r) (s := s) n c w (by unfold inTop; simp; omega)).mono fun e w' ⟨a, b⟩ => ⟨r, a, h.below b, b, BookFr.refl _ _⟩
end Go.Proofs.YtccmjljlfgbicaaGreat

/- Contract of corrieref08.New: the document's world is made. -/
namespace Go.Proofs.YtccmjljlfgbicaaGreat
open Go.ChangeShapes Go.WideShapes Go.ChangeAt Go.RowKit

theorem below_only {S : Nat → Prop} {w w' : World} (h : Below w.heap.size w w') : Only S w w' := ⟨h.os, h.tape, h.output, h.size, fun i hi _ => h.block i hi⟩
/-- What is kept in the last region. -/
structure WNG (W : World) (B : Nat) (c : Conf) (r : RV) (dn : Nat → Bool) (us : Nat → Value) (w : World) : Prop where
  only : Only (fun j => j = B + 1) W w
  t2 : dn 6 = false → At w (B + 1) 45 zero17
  t2' : dn 6 = true → ∃ ao cap, At w (B + 1) 45 (RV.cells { r with w := (ao, cap) } (St.new c)) ∧ ReadAt w ao (wordsV (St.new c).words) ∧ Fr (B + 2) none ao
  f0 : dn 0 = true → us 0 = .agg c.cells
  f1 : dn 1 = true → us 1 = .agg c.cells
  f2 : dn 2 = true → us 2 = .int .i64 ((St.new c).words.length : Int)
  f3 : dn 3 = true → ∃ ao cap, us 3 = cv (ao, cap) (St.new c).words 0 ∧ ReadAt w ao (wordsV (St.new c).words) ∧ Fr (B + 2) none ao
  f4 : dn 4 = true → us 4 = .agg (r.bcells (St.new c))
  f5 : dn 5 = true → ∃ ao cap, us 5 = .agg (RV.cells { r with w := (ao, cap) } (St.new c)) ∧ ReadAt w ao (wordsV (St.new c).words) ∧ Fr (B + 2) none ao
  f7 : dn 7 = true → us 7 = .int .i64 0

theorem fr_next {B : Nat} {ao : Option Addr} (h : Fr (B + 2) none ao) : ∀ b o, ao = some ⟨b, o, none⟩ → ¬ b = B + 1 :=
  h.off (N := fun b => b = B + 1) (fun _ _ e => (by cases e)) fun b e => by have e' : b = B + 1 := e; omega
theorem WNG.below {W w w' : World} {B : Nat} {c : Conf} {r : RV} {dn : Nat → Bool} {us : Nat → Value} (h : WNG W B c r dn us w) (hb : Below w.heap.size w w') : WNG W B c r dn us w' := by
  refine ⟨h.only.trans (below_only hb), fun e => (h.t2 e).below' hb, fun e => ?_, h.f0, h.f1, h.f2, fun e => ?_, h.f4, fun e => ?_, h.f7⟩
  · obtain ⟨ao, cap, a, b, d⟩ := h.t2' e
    exact ⟨ao, cap, a.below' hb, b.below hb, d⟩
  · obtain ⟨ao, cap, a, b, d⟩ := h.f3 e
    exact ⟨ao, cap, a, b.below hb, d⟩
  · obtain ⟨ao, cap, a, b, d⟩ := h.f5 e
    exact ⟨ao, cap, a, b.below hb, d⟩

set_option maxRecDepth 100000 in
set_option maxHeartbeats 1000000 in
theorem rwnew_any (c : Conf) (w : World) (hm : c.may = true) :
    Calls Tryz.prog 62 #[c.val] w fun e w' => ∃ r : RV, e = .returned (.tuple #[r.val (St.new c), .int .i64 0]) ∧ RefIn w' r (St.new c) ∧ Below w.heap.size w w' ∧ Fr w.heap.size none r.w.1 ∧ BookFr w.heap.size ⟨(none, 0), (none, 0), (none, 0), (none, 0), (none, 0), (none, 0)⟩ r := by
  have hlen : ((St.new c).words.length : Int) = c.nodes + c.ops + c.threads := (ok_new hm).len
  have hmb := may_bounds hm
  have hnb := nodes_bounds hm
  have hob := ops_bounds c
  have HM := Lib.hid hm
  have HL := Lib.hid (And.intro hlen (And.intro hmb (And.intro hnb hob)))
  clear hm hmb hnb hob hlen
  have A1 := (At.new w 35 c.cells).alloc (.cells zero17 45)
  have A2 := At.new1 w (.cells c.cells 35) 45 zero17
  go_enter Tryz.func62, Tryz.ntmps62
  go_wp2_with (first
    | (refine wpl_st rfl 43 _ _ rfl (r.bcells (St.new c)) rfl _ rfl (At.new w1 _ _) (by kernel_rfl) rfl rfl rfl ?_; intro w2 C4 O4)
    | (go_at_call 130; refine (rbnew_any c _ HM.out).mono ?_; rintro e w1 ⟨r, rfl, hB, hb1, hfr⟩; have B1 := A1.below' hb1; have B2 := A2.below' hb1; have D1 := (below_twice w (.cells c.cells 35) (.cells zero17 45)).trans (hb1.mono (by simp; omega)))
    | (refine wpl_ld rfl 35 _ rfl c.cells rfl _ A1 Tryz.underlying35 rfl (by kernel_rfl) rfl ?_))
  have l1 := B1.lt
  have l2 := B2.lt
  have E1 : At w2 w.heap.size 35 c.cells := (B1.alloc _).only O4 (by show ¬ w.heap.size = w1.heap.size; omega)
  have E2 : At w2 (w.heap.size + 1) 45 zero17 := (B2.alloc _).only O4 (by show ¬ w.heap.size + 1 = w1.heap.size; omega)
  have D2 : Below w1.heap.size w1 w2 := ((Below.refl _ w1).alloc (Nat.le_refl _) _).trans (O4.below (by simp) fun j hj e => by have e' : j = w1.heap.size := e; omega)
  have hB2 := hB.below D2
  have D2' := D1.trans (D2.mono D1.size)
  have hrep : List.replicate (St.new c).words.length 0 = (St.new c).words := by simp [St.new]
  have off : ∀ (a : Option Addr), Fr (((w.alloc (.cells c.cells 35)).alloc (.cells zero17 45)).heap.size) none a → ∀ b o, a = some ⟨b, o, none⟩ → b ≠ w.heap.size + 1 := by
    rintro a (rfl | ⟨g, rfl, hg⟩) b o e
    · cases e
    · injection e with e
      injection e with e1 e2
      simp at hg
      omega
  refine wp_region_J (l := [_, _, _, _, _, _, _, _]) (WNG w2 w.heap.size c r) (by kernel_rfl) (by kernel_rfl) (fun us => ⟨⟨rfl, rfl, rfl, Nat.le_refl _, fun _ _ _ => rfl⟩, fun _ => E2, fun e => (by cases e), fun e => (by cases e), fun e => (by cases e), fun e => (by cases e), fun e => (by cases e), fun e => (by cases e), fun e => (by cases e), fun e => (by cases e)⟩) ⟨?_, ?_, ?_, ?_, ?_, ?_, ?_, ?_, trivial⟩ ?_
  · intro dn us w6 A hev hy hG hdn hdep K hK
    have e1 : A.eval (.tmp 1) = .pointer (some ⟨w.heap.size, 0, none⟩) := by rw [hev]; rfl
    refine step_list (wpl_ld rfl 35 (.tmp 1) rfl c.cells e1 _ (E1.only hG.only (by show ¬ w.heap.size = w.heap.size + 1; omega)) Tryz.underlying35 rfl (by kernel_rfl) rfl ⟨rfl, ?_⟩)
    exact hK _ _ ⟨hG.only, hG.t2, hG.t2', fun _ => rfl, hG.f1, hG.f2, hG.f3, hG.f4, hG.f5, hG.f7⟩
  · intro dn us w6 A hev hy hG hdn hdep K hK
    have e1 : A.eval (.tmp 1) = .pointer (some ⟨w.heap.size, 0, none⟩) := by rw [hev]; rfl
    refine step_list (wpl_ld rfl 35 (.tmp 1) rfl c.cells e1 _ (E1.only hG.only (by show ¬ w.heap.size = w.heap.size + 1; omega)) Tryz.underlying35 rfl (by kernel_rfl) rfl ⟨rfl, ?_⟩)
    exact hK _ _ ⟨hG.only, hG.t2, hG.t2', hG.f0, fun _ => rfl, hG.f2, hG.f3, hG.f4, hG.f5, hG.f7⟩
  · intro dn us w6 A hev hy hG hdn hdep K hK
    have d1 : dn 1 = true := allD_mem hdep (by decide)
    have e16 : A.eval (.tmp 16) = .agg c.cells := by rw [hev]; exact hG.f1 d1
    have ef : A.eval (.func 132) = .func (.func 132) #[] #[] := by rw [hev]; rfl
    rw [if_pos (by rfl)]
    unfold Oper.wp execOp
    generalize A.eval = ev at e16 ef ⊢
    go_simp
    refine (rlen_any c _ HM.out).mono ?_
    rintro e w7 ⟨rfl, hb⟩
    have hG' := hG.below hb
    exact hK _ _ ⟨hG'.only, hG'.t2, hG'.t2', hG'.f0, hG'.f1, fun _ => by rw [HL.out.1]; rfl, hG'.f3, hG'.f4, hG'.f5, hG'.f7⟩
  · intro dn us w6 A hev hy hG hdn hdep K hK
    have d2 : dn 2 = true := allD_mem hdep (by decide)
    have e17 : A.eval (.tmp 17) = .int .i64 ((St.new c).words.length : Int) := by rw [hev]; exact hG.f2 d2
    have ef : A.eval (.func 131) = .func (.func 131) #[] #[] := by rw [hev]; rfl
    rw [if_pos (by rfl)]
    unfold Oper.wp execOp
    generalize A.eval = ev at e17 ef ⊢
    go_simp
    refine (rcnew_any (St.new c).words.length _ (by have := HL.out; omega)).mono ?_
    rintro e w7 ⟨ao, cap, rfl, hr, hb, hao⟩
    rw [hrep] at hr ⊢
    have hG' := hG.below hb
    refine hK _ _ ⟨hG'.only, hG'.t2, hG'.t2', hG'.f0, hG'.f1, hG'.f2, fun _ => ⟨ao, cap, rfl, hr, Fr.mono (show Fr _ none ao from hao) (by have := hG.only.size; have := E2.lt; omega)⟩, hG'.f4, hG'.f5, hG'.f7⟩
  · intro dn us w6 A hev hy hG hdn hdep K hK
    have e4 : A.eval (.tmp 4) = .pointer (some ⟨w1.heap.size, 0, none⟩) := by rw [hev]; rfl
    refine step_list (wpl_ld rfl 43 (.tmp 4) rfl (r.bcells (St.new c)) e4 _ (C4.only hG.only (by show ¬ w1.heap.size = w.heap.size + 1; omega)) Tryz.underlying43 rfl (by kernel_rfl) rfl ⟨rfl, ?_⟩)
    exact hK _ _ ⟨hG.only, hG.t2, hG.t2', hG.f0, hG.f1, hG.f2, hG.f3, fun _ => rfl, hG.f5, hG.f7⟩
  · intro dn us w6 A hev hy hG hdn hdep K hK
    have d0 : dn 0 = true := allD_mem hdep (by decide)
    have d3 : dn 3 = true := allD_mem hdep (by decide)
    have d4 : dn 4 = true := allD_mem hdep (by decide)
    obtain ⟨ao, cap, u3, hr, hao⟩ := hG.f3 d3
    have e15 : A.eval (.tmp 15) = .agg c.cells := by rw [hev]; exact hG.f0 d0
    have e18 : A.eval (.tmp 18) = cv (ao, cap) (St.new c).words 0 := by rw [hev]; exact u3
    have e19 : A.eval (.tmp 19) = .agg (r.bcells (St.new c)) := by rw [hev]; exact hG.f4 d4
    rw [if_pos (by rfl)]
    unfold Oper.wp execOp
    generalize A.eval = ev at e15 e18 e19 ⊢
    go_simp
    exact hK _ _ ⟨hG.only, hG.t2, hG.t2', hG.f0, hG.f1, hG.f2, hG.f3, hG.f4, fun _ => ⟨ao, cap, rfl, hr, hao⟩, hG.f7⟩
  · intro dn us w6 A hev hy hG hdn hdep K hK
    have d5 : dn 5 = true := allD_mem hdep (by decide)
    obtain ⟨ao, cap, u5, hr, hao⟩ := hG.f5 d5
    have e2 : A.eval (.tmp 2) = .pointer (some ⟨w.heap.size + 1, 0, none⟩) := by rw [hev]; rfl
    have e20 : A.eval (.tmp 20) = .agg (RV.cells { r with w := (ao, cap) } (St.new c)) := by rw [hev]; exact u5
    refine step_list (wpl_st rfl 45 (.tmp 2) (.tmp 20) rfl (RV.cells { r with w := (ao, cap) } (St.new c)) e2 _ e20 (hG.t2 hdn) (by kernel_rfl) rfl rfl rfl fun w7 A7 O7 => ⟨rfl, ?_⟩)
    refine hK _ _ ⟨hG.only.trans O7, fun q => (nomatch (show true = false from q)), fun _ => ⟨ao, cap, A7, hr.only O7 fun b o e _ => fr_next hao b o e, hao⟩, hG.f0, hG.f1, hG.f2, fun e => ?_, hG.f4, fun e => ?_, hG.f7⟩
    · obtain ⟨ao', cap', a, b, d⟩ := hG.f3 e
      exact ⟨ao', cap', a, b.only O7 fun b o e _ => fr_next d b o e, d⟩
    · obtain ⟨ao', cap', a, b, d⟩ := hG.f5 e
      exact ⟨ao', cap', a, b.only O7 fun b o e _ => fr_next d b o e, d⟩
  · intro dn us w6 A hev hy hG hdn hdep K hK
    have ec : A.eval (.const (.int .i64 0)) = .int .i64 0 := by rw [hev]; rfl
    refine step_list (wpl_move rfl _ (.inr rfl) ⟨rfl, ?_⟩)
    exact hK _ _ ⟨hG.only, hG.t2, hG.t2', hG.f0, hG.f1, hG.f2, hG.f3, hG.f4, hG.f5, fun _ => ec⟩
  intro dn us w7 hG hall
  obtain ⟨ao, cap, A7, hr, hfw⟩ := hG.t2' (hall 6 (by decide))
  have u7 := hG.f7 (hall 7 (by decide))
  have D7 : Below w.heap.size w w7 := D2'.trans (hG.only.below D2'.size fun j hj e => by have e' : j = w.heap.size + 1 := e; omega)
  have hO := hG.only
  have hb7 : BookIn w7 r (St.new c) := ⟨hB2.cs.only hO fun b o e _ => off _ hfr.cs b o e, hB2.is.only hO fun b o e _ => off _ hfr.is b o e, hB2.ms.only hO fun b o e _ => off _ hfr.ms b o e, fun j u hu => by simp [St.new, opRows] at hu, fun j u hu => by simp [St.new, nodeRows] at hu, hB2.os0, hB2.ns0⟩
  simp only [fillA, fillT, Nat.reduceAdd, List.setIfInBounds_toArray, List.set_cons_zero, List.set_cons_succ, u7]
  clear hG hall u7
  go_wp2_with fail
  exact bodyPost_ret (v := .tuple #[RV.val { r with w := (ao, cap) } (St.new c), .int .i64 0]) (res_cell_tmp (fn := Tryz.f62) Tryz.results62 _ _ (w.heap.size + 1) _ _ rfl A7 Tryz.underlying45 rfl (by kernel_rfl)) rfl ⟨{ r with w := (ao, cap) }, rfl, ⟨hr, ⟨hb7.cs, hb7.is, hb7.ms, hb7.os, hb7.ns, hb7.os0, hb7.ns0⟩⟩, D7, hfw.mono (by omega), ⟨hfr.cs.imp id fun ⟨g, a, b⟩ => ⟨g, a, by simp at b; omega⟩, hfr.is.imp id fun ⟨g, a, b⟩ => ⟨g, a, by simp at b; omega⟩, hfr.ms.imp id fun ⟨g, a, b⟩ => ⟨g, a, by simp at b; omega⟩, hfr.os.imp id fun ⟨g, a, b⟩ => ⟨g, a, by simp at b; omega⟩, hfr.ns.imp id fun ⟨g, a, b⟩ => ⟨g, a, by simp at b; omega⟩⟩⟩
end Go.Proofs.YtccmjljlfgbicaaGreat

/- What is kept in a region that calls a function, and lays the struct that it hands back into memory of its own: whatever order is drawn. -/
namespace Go.Proofs.YtccmjljlfgbicaaGreat
open Go.ChangeShapes Go.WideShapes Go.ChangeAt Go.RowKit

/-- k: the call's number; m: how many it hands back; behind it a move, m extracts, an alloc, a store, m - 1 assigns. -/
structure CallG (k m : Nat) (T : TypeId) (zero : Array Value) (F : Nat → Value → Prop) (tup : RV → List Value) (cs : RV → Array Value) (R : RV → World → Prop) (W : World) (dn : Nat → Bool) (us : Nat → Value) (w : World) : Prop where
  only : Only (fun _ => False) W w
  st : dn (k + m + 3) = true → dn (k + m + 2) = true
  pre : ∀ j, j < k → dn j = true → F j (us j)
  call : dn k = true → ∃ ρ, us k = .tuple (tup ρ).toArray ∧ R ρ w ∧ (dn (k + m + 2) = true → ∀ g, us (k + m + 2) = .pointer (some ⟨g, 0, none⟩) → ∀ w', Only (fun j => j = g) w w' → R ρ w')
  mv : dn (k + 1) = true → dn k = true ∧ us (k + 1) = us k
  ext : ∀ i, i < m → dn (k + 2 + i) = true → dn k = true ∧ ∀ ρ, us k = .tuple (tup ρ).toArray → some (us (k + 2 + i)) = (tup ρ)[i]?
  box : dn (k + m + 2) = true → ∃ g, us (k + m + 2) = .pointer (some ⟨g, 0, none⟩) ∧ W.heap.size ≤ g ∧ g < w.heap.size ∧ (dn (k + m + 3) = false → At w g T zero) ∧ (dn (k + m + 3) = true → dn k = true ∧ ∀ ρ, us k = .tuple (tup ρ).toArray → At w g T (cs ρ))
  asg : ∀ i, 1 ≤ i → i < m → dn (k + m + 3 + i) = true → dn k = true ∧ ∀ ρ, us k = .tuple (tup ρ).toArray → some (us (k + m + 3 + i)) = (tup ρ)[i]?

section
variable {k m : Nat} {T : TypeId} {zero : Array Value} {F : Nat → Value → Prop} {tup : RV → List Value} {cs : RV → Array Value} {R : RV → World → Prop} {W w : World} {dn : Nat → Bool} {us : Nat → Value}
theorem CallG.start (us : Nat → Value) : CallG k m T zero F tup cs R W (fun _ => false) us W.drew :=
  ⟨⟨rfl, rfl, rfl, Nat.le_refl _, fun _ _ _ => rfl⟩, fun e => (by cases e), fun _ _ e => (by cases e), fun e => (by cases e), fun e => (by cases e), fun _ _ e => (by cases e), fun e => (by cases e), fun _ _ _ e => (by cases e)⟩
theorem updB_ne {dn : Nat → Bool} {i j : Nat} (h : j ≠ i) : updB dn i j = dn j := if_neg h
theorem updB_eq {dn : Nat → Bool} {i : Nat} : updB dn i i = true := if_pos rfl
theorem updN_ne {us : Nat → Value} {i j : Nat} {v : Value} (h : j ≠ i) : updN us i v j = us j := if_neg h
theorem updN_eq {us : Nat → Value} {i : Nat} {v : Value} : updN us i v i = v := if_pos rfl
/-- One of the first operations. -/
theorem CallG.first (h : CallG k m T zero F tup cs R W dn us w) {i : Nat} {v : Value} (hi : i < k) (hv : F i v) : CallG k m T zero F tup cs R W (updB dn i) (updN us i v) w := by
  refine ⟨h.only, fun e => (by rw [updB_ne (by omega)] at e ⊢; exact h.st e), fun j hj e => ?_, fun e => ?_, fun e => ?_, fun j hj e => ?_, fun e => ?_, fun j h1 hj e => ?_⟩
  · by_cases q : j = i
    · subst q; rw [updN_eq]; exact hv
    · rw [updB_ne q] at e; rw [updN_ne q]; exact h.pre j hj e
  · rw [updB_ne (by omega)] at e ⊢; rw [updN_ne (by omega), updN_ne (by omega)]; exact h.call e
  · rw [updB_ne (by omega)] at e ⊢; rw [updN_ne (by omega), updN_ne (by omega)]; exact h.mv e
  · rw [updB_ne (by omega)] at e ⊢; rw [updN_ne (by omega), updN_ne (by omega)]; exact h.ext j hj e
  · rw [updB_ne (by omega)] at e ⊢; rw [updB_ne (by omega), updN_ne (by omega), updN_ne (by omega)]; exact h.box e
  · rw [updB_ne (by omega)] at e ⊢; rw [updN_ne (by omega), updN_ne (by omega)]; exact h.asg j h1 hj e
/-- The call. -/
theorem CallG.called (h : CallG k m T zero F tup cs R W dn us w) (hk : dn k = false) {w' : World} {ρ : RV} (hb : Below w.heap.size w w') (hr : R ρ w') (hoff : ∀ g, W.heap.size ≤ g → g < w.heap.size → At w' g T zero → ∀ w'', Only (fun j => j = g) w' w'' → R ρ w'') : CallG k m T zero F tup cs R W (updB dn k) (updN us k (.tuple (tup ρ).toArray)) w' := by
  refine ⟨h.only.trans (below_only hb), fun e => (by rw [updB_ne (by omega)] at e ⊢; exact h.st e), fun j hj e => ?_, fun _ => ⟨ρ, updN_eq, hr, fun e g hg => ?_⟩, fun e => ?_, fun j hj e => ?_, fun e => ?_, fun j h1 hj e => ?_⟩
  · rw [updB_ne (by omega)] at e; rw [updN_ne (by omega)]; exact h.pre j hj e
  · rw [updB_ne (by omega)] at e
    rw [updN_ne (by omega)] at hg
    obtain ⟨g', b1, b2, b3, b4, b5⟩ := h.box e
    rw [b1] at hg
    injection hg with hg
    injection hg with hg
    injection hg with hg
    subst hg
    refine hoff _ b2 b3 ((b4 ?_).below' hb)
    cases q : dn (k + m + 3) with
    | false => rfl
    | true => have := (b5 q).1; rw [hk] at this; cases this
  · rw [updB_ne (by omega)] at e
    have := (h.mv e).1
    rw [hk] at this; cases this
  · rw [updB_ne (by omega)] at e
    have := (h.ext j hj e).1
    rw [hk] at this; cases this
  · rw [updB_ne (by omega)] at e ⊢
    rw [updN_ne (by omega), updB_eq]
    obtain ⟨g', b1, b2, b3, b4, b5⟩ := h.box e
    refine ⟨g', b1, b2, Nat.lt_of_lt_of_le b3 hb.size, fun q => (b4 q).below' hb, fun q => ?_⟩
    have := (b5 q).1
    rw [hk] at this; cases this
  · rw [updB_ne (by omega)] at e
    have := (h.asg j h1 hj e).1
    rw [hk] at this; cases this
theorem CallG.moved (h : CallG k m T zero F tup cs R W dn us w) (hk : dn k = true) : CallG k m T zero F tup cs R W (updB dn (k + 1)) (updN us (k + 1) (us k)) w := by
  refine ⟨h.only, fun e => (by rw [updB_ne (by omega)] at e ⊢; exact h.st e), fun j hj e => ?_, fun e => ?_, fun e => ?_, fun j hj e => ?_, fun e => ?_, fun j h1 hj e => ?_⟩
  · rw [updB_ne (by omega)] at e; rw [updN_ne (by omega)]; exact h.pre j hj e
  · rw [updB_ne (by omega)] at e ⊢; rw [updN_ne (by omega), updN_ne (by omega)]; exact h.call e
  · rw [updB_ne (by omega), updN_eq, updN_ne (by omega)]; exact ⟨hk, rfl⟩
  · rw [updB_ne (by omega)] at e ⊢; rw [updN_ne (by omega), updN_ne (by omega)]; exact h.ext j hj e
  · rw [updB_ne (by omega)] at e ⊢; rw [updB_ne (by omega), updN_ne (by omega), updN_ne (by omega)]; exact h.box e
  · rw [updB_ne (by omega)] at e ⊢; rw [updN_ne (by omega), updN_ne (by omega)]; exact h.asg j h1 hj e
theorem CallG.took (h : CallG k m T zero F tup cs R W dn us w) {i : Nat} (hi : i < m) (hk : dn k = true) {v : Value} (hv : ∀ ρ, us k = .tuple (tup ρ).toArray → some v = (tup ρ)[i]?) : CallG k m T zero F tup cs R W (updB dn (k + 2 + i)) (updN us (k + 2 + i) v) w := by
  refine ⟨h.only, fun e => (by rw [updB_ne (by omega)] at e ⊢; exact h.st e), fun j hj e => ?_, fun e => ?_, fun e => ?_, fun j hj e => ?_, fun e => ?_, fun j h1 hj e => ?_⟩
  · rw [updB_ne (by omega)] at e; rw [updN_ne (by omega)]; exact h.pre j hj e
  · rw [updB_ne (by omega)] at e ⊢; rw [updN_ne (by omega), updN_ne (by omega)]; exact h.call e
  · rw [updB_ne (by omega)] at e ⊢; rw [updN_ne (by omega), updN_ne (by omega)]; exact h.mv e
  · rw [updB_ne (j := k) (by omega), updN_ne (j := k) (by omega)]
    by_cases q : j = i
    · subst q; rw [updN_eq]; exact ⟨hk, hv⟩
    · rw [updB_ne (by omega)] at e; rw [updN_ne (by omega)]; exact h.ext j hj e
  · rw [updB_ne (by omega)] at e ⊢; rw [updB_ne (by omega), updN_ne (by omega), updN_ne (by omega)]; exact h.box e
  · rw [updB_ne (by omega)] at e ⊢; rw [updN_ne (by omega), updN_ne (by omega)]; exact h.asg j h1 hj e
theorem CallG.said (h : CallG k m T zero F tup cs R W dn us w) {i : Nat} (hi1 : 1 ≤ i) (hi : i < m) (hk : dn k = true) {v : Value} (hv : ∀ ρ, us k = .tuple (tup ρ).toArray → some v = (tup ρ)[i]?) : CallG k m T zero F tup cs R W (updB dn (k + m + 3 + i)) (updN us (k + m + 3 + i) v) w := by
  refine ⟨h.only, fun e => (by rw [updB_ne (by omega)] at e ⊢; exact h.st e), fun j hj e => ?_, fun e => ?_, fun e => ?_, fun j hj e => ?_, fun e => ?_, fun j h1 hj e => ?_⟩
  · rw [updB_ne (by omega)] at e; rw [updN_ne (by omega)]; exact h.pre j hj e
  · rw [updB_ne (by omega)] at e ⊢; rw [updN_ne (by omega), updN_ne (by omega)]; exact h.call e
  · rw [updB_ne (by omega)] at e ⊢; rw [updN_ne (by omega), updN_ne (by omega)]; exact h.mv e
  · rw [updB_ne (by omega)] at e ⊢; rw [updN_ne (by omega), updN_ne (by omega)]; exact h.ext j hj e
  · rw [updB_ne (by omega)] at e ⊢; rw [updB_ne (by omega), updN_ne (by omega), updN_ne (by omega)]; exact h.box e
  · rw [updB_ne (j := k) (by omega), updN_ne (j := k) (by omega)]
    by_cases q : j = i
    · subst q; rw [updN_eq]; exact ⟨hk, hv⟩
    · rw [updB_ne (by omega)] at e; rw [updN_ne (by omega)]; exact h.asg j h1 hj e
/-- The memory is made. -/
theorem CallG.boxed (h : CallG k m T zero F tup cs R W dn us w) (hd : dn (k + m + 2) = false) (hR : ∀ ρ, R ρ w → R ρ (w.alloc (.cells zero T)) ∧ ∀ w', Only (fun j => j = w.heap.size) (w.alloc (.cells zero T)) w' → R ρ w') : CallG k m T zero F tup cs R W (updB dn (k + m + 2)) (updN us (k + m + 2) (.pointer (some ⟨w.heap.size, 0, none⟩))) (w.alloc (.cells zero T)) := by
  have hs : dn (k + m + 3) = false := by
    cases q : dn (k + m + 3) with
    | false => rfl
    | true => have := h.st q; rw [hd] at this; cases this
  refine ⟨h.only.alloc _, fun _ => updB_eq, fun j hj e => ?_, fun e => ?_, fun e => ?_, fun j hj e => ?_, fun e => ?_, fun j h1 hj e => ?_⟩
  · rw [updB_ne (by omega)] at e; rw [updN_ne (by omega)]; exact h.pre j hj e
  · rw [updB_ne (by omega)] at e
    rw [updN_ne (by omega), updN_eq]
    obtain ⟨ρ, a, b, _⟩ := h.call e
    refine ⟨ρ, a, (hR ρ b).1, fun _ g hg => ?_⟩
    injection hg with hg
    injection hg with hg
    injection hg with hg
    subst hg
    exact (hR ρ b).2
  · rw [updB_ne (by omega)] at e ⊢; rw [updN_ne (by omega), updN_ne (by omega)]; exact h.mv e
  · rw [updB_ne (by omega)] at e ⊢; rw [updN_ne (by omega), updN_ne (by omega)]; exact h.ext j hj e
  · rw [updN_eq, updB_ne (by omega)]
    exact ⟨_, rfl, h.only.size, by rw [World.size_alloc]; omega, fun _ => At.new w T zero, fun q => by rw [hs] at q; cases q⟩
  · rw [updB_ne (by omega)] at e ⊢; rw [updN_ne (by omega), updN_ne (by omega)]; exact h.asg j h1 hj e
/-- What was handed back is laid into it. -/
theorem CallG.laid (h : CallG k m T zero F tup cs R W dn us w) (hk : dn k = true) (hb : dn (k + m + 2) = true) {g : Nat} (hg : us (k + m + 2) = .pointer (some ⟨g, 0, none⟩)) {w' : World} (hO : Only (fun j => j = g) w w') (hA : ∀ ρ, us k = .tuple (tup ρ).toArray → At w' g T (cs ρ)) (v : Value) : CallG k m T zero F tup cs R W (updB dn (k + m + 3)) (updN us (k + m + 3) v) w' := by
  obtain ⟨g', b1, b2, b3, _⟩ := h.box hb
  have e1 : g' = g := by
    rw [b1] at hg
    injection hg with hg
    injection hg with hg
    injection hg with hg
  subst e1
  refine ⟨⟨hO.os.trans h.only.os, hO.tape.trans h.only.tape, hO.output.trans h.only.output, Nat.le_trans h.only.size hO.size, fun i hi _ => (hO.block i (Nat.lt_of_lt_of_le hi h.only.size) (by show ¬ i = g'; omega)).trans (h.only.block i hi id)⟩, fun _ => (by rw [updB_ne (by omega)]; exact hb), fun j hj e => ?_, fun e => ?_, fun e => ?_, fun j hj e => ?_, fun e => ?_, fun j h1 hj e => ?_⟩
  · rw [updB_ne (by omega)] at e; rw [updN_ne (by omega)]; exact h.pre j hj e
  · rw [updB_ne (by omega)] at e
    rw [updN_ne (by omega), updN_ne (by omega), updB_ne (by omega)]
    obtain ⟨ρ, a, b, c⟩ := h.call e
    refine ⟨ρ, a, c hb g' b1 w' hO, fun _ g hg w'' hO' => c hb g' b1 w'' ?_⟩
    rw [b1] at hg
    injection hg with hg
    injection hg with hg
    injection hg with hg
    subst hg
    exact hO.trans hO'
  · rw [updB_ne (by omega)] at e ⊢; rw [updN_ne (by omega), updN_ne (by omega)]; exact h.mv e
  · rw [updB_ne (by omega)] at e ⊢; rw [updN_ne (by omega), updN_ne (by omega)]; exact h.ext j hj e
  · rw [updB_eq, updN_ne (by omega), updN_ne (by omega), updB_ne (by omega)]
    exact ⟨g', b1, b2, Nat.lt_of_lt_of_le b3 hO.size, fun q => (by cases q), fun _ => ⟨hk, hA⟩⟩
  · rw [updB_ne (by omega)] at e ⊢; rw [updN_ne (by omega), updN_ne (by omega)]; exact h.asg j h1 hj e
end
end Go.Proofs.YtccmjljlfgbicaaGreat

