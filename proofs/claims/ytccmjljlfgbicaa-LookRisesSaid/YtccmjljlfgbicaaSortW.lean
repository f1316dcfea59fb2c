/- slices.SortStableFunc of few pairs, by look.Pairs$1: they are sorted. Printed by sortgen.py. -/
import Derived.Test.YtccmjljlfgbicaaSortP
import Derived.Test.YtccmjljlfgbicaaRegQ
import Derived.Test.YtccmjljlfgbicaaOutG
import Derived.Deep.LoopGhost
import Derived.Deep.Cut
namespace Go.Proofs.Ytccmjljlfgbicaa
open Go.ChangeShapes Go.WideShapes Go.ChangeAt Go.RowKit

def cmpI (a b : Int) : Int := if a < b then -1 else if b < a then 1 else 0
set_option maxRecDepth 100000 in
set_option maxHeartbeats 1000000 in
theorem isnan_any (a : Int) (w : World) :
    Calls Try.prog 107 #[.int .u64 a] w fun e w' => e = .returned (.bool false) ∧ w = w' := by
  go_enter Try.func107, Try.ntmps107
  go_wp2
  go_ret
  exact ⟨rfl, rfl⟩
set_option maxRecDepth 100000 in
set_option maxHeartbeats 1000000 in
theorem compare_any (a b : Int) (w : World) :
    Calls Try.prog 62 #[.int .u64 a, .int .u64 b] w fun e w' => e = .returned (.int .i64 (cmpI a b)) ∧ w = w' := by
  rcases Int.lt_trichotomy a b with h | h | h
  · have hc : cmpI a b = -1 := if_pos h
    rw [hc]
    go_enter Try.func62, Try.ntmps62
    go_wp2_with (go_at_call 107; refine (isnan_any _ _).mono ?_; rintro e w1 ⟨rfl, rfl⟩)
    go_ret
    exact ⟨rfl, rfl⟩
  · subst h
    have hc : cmpI a a = 0 := by unfold cmpI; rw [if_neg (by omega), if_neg (by omega)]
    rw [hc]
    go_enter Try.func62, Try.ntmps62
    go_wp2_with (go_at_call 107; refine (isnan_any _ _).mono ?_; rintro e w1 ⟨rfl, rfl⟩)
    go_ret
    exact ⟨rfl, rfl⟩
  · have hc : cmpI a b = 1 := by unfold cmpI; rw [if_neg (by omega), if_pos h]
    have h' : ¬ a < b := by omega
    rw [hc]
    go_enter Try.func62, Try.ntmps62
    go_wp2_with (go_at_call 107; refine (isnan_any _ _).mono ?_; rintro e w1 ⟨rfl, rfl⟩)
    go_ret
    exact ⟨rfl, rfl⟩
set_option maxRecDepth 100000 in
set_option maxHeartbeats 1000000 in
theorem cmp1_any (x q : Int × Int) (w : World) :
    Calls Try.prog 61 #[.agg #[.int .u64 x.1, .int .u64 x.2], .agg #[.int .u64 q.1, .int .u64 q.2]] w fun e w' => e = .returned (.int .i64 (cmpI x.1 q.1)) ∧ Below w.heap.size w w' := by
  go_enter Try.func61, Try.ntmps61
  go_wp2_with (go_at_call 62; refine (compare_any _ _ _).mono ?_; rintro e w1 ⟨rfl, rfl⟩)
  go_ret
  exact ⟨rfl, below_twice w _ _⟩

/-- What is kept while two pairs change places. -/
structure SwG (g : Nat) (T : TypeId) (c00 c10 c01 c11 : Array Value) (F : Nat → Value → Prop) (W : World) (dn : Nat → Bool) (us : Nat → Value) (w : World) : Prop where
  only : Only (fun j => j = g) W w
  all : dn 15 = true ∨ dn 17 = true → dn 9 = true ∧ dn 13 = true
  pre : ∀ j, j ≠ 15 → j ≠ 17 → dn j = true → F j (us j)
  at_ : At w g T (match dn 15, dn 17 with | false, false => c00 | true, false => c10 | false, true => c01 | true, true => c11)
section
variable {g : Nat} {T : TypeId} {c00 c10 c01 c11 : Array Value} {F : Nat → Value → Prop} {W w w' : World} {dn : Nat → Bool} {us : Nat → Value}
theorem SwG.start (us : Nat → Value) (h : At W g T c00) : SwG g T c00 c10 c01 c11 F W (fun _ => false) us W :=
  ⟨Only.refl _ _, fun e => (by rcases e with e | e <;> cases e), fun _ _ _ e => (by cases e), h⟩
theorem SwG.first (h : SwG g T c00 c10 c01 c11 F W dn us w) {i : Nat} {v : Value} (h1 : i ≠ 15) (h2 : i ≠ 17) (hv : F i v) : SwG g T c00 c10 c01 c11 F W (updB dn i) (updN us i v) w := by
  refine ⟨h.only, fun e => ?_, fun j a b e => ?_, ?_⟩
  · rw [updB_ne (Ne.symm h1), updB_ne (Ne.symm h2)] at e
    obtain ⟨a, b⟩ := h.all e
    refine ⟨?_, ?_⟩
    · by_cases q : 9 = i
      · subst q; exact updB_eq
      · rw [updB_ne q]; exact a
    · by_cases q : 13 = i
      · subst q; exact updB_eq
      · rw [updB_ne q]; exact b
  · by_cases q : j = i
    · subst q; rw [updN_eq]; exact hv
    · rw [updB_ne q] at e; rw [updN_ne q]; exact h.pre j a b e
  · rw [updB_ne (Ne.symm h1), updB_ne (Ne.symm h2)]; exact h.at_
theorem SwG.old {n : Nat} (h : SwG g T c00 c10 c01 c11 F W dn us w) (hn : n = 9 ∨ n = 13) (hd : dn n = false) : At w g T c00 := by
  have k : ¬ (dn 15 = true ∨ dn 17 = true) := fun e => by
    obtain ⟨a, b⟩ := h.all e
    rcases hn with rfl | rfl
    · rw [hd] at a; cases a
    · rw [hd] at b; cases b
  have a := h.at_
  cases q1 : dn 15 with
  | true => exact (k (.inl q1)).elim
  | false =>
    cases q2 : dn 17 with
    | true => exact (k (.inr q2)).elim
    | false => rw [q1, q2] at a; exact a
theorem SwG.old9 (h : SwG g T c00 c10 c01 c11 F W dn us w) (hd : dn 9 = false) : At w g T c00 := h.old (.inl rfl) hd
theorem SwG.old13 (h : SwG g T c00 c10 c01 c11 F W dn us w) (hd : dn 13 = false) : At w g T c00 := h.old (.inr rfl) hd
theorem SwG.laid15 (h : SwG g T c00 c10 c01 c11 F W dn us w) (d9 : dn 9 = true) (d13 : dn 13 = true) (_hd : dn 15 = false) {v : Value} (hA : At w' g T (match dn 17 with | false => c10 | true => c11)) (hO : Only (fun j => j = g) w w') : SwG g T c00 c10 c01 c11 F W (updB dn 15) (updN us 15 v) w' := by
  refine ⟨h.only.trans hO, fun _ => ⟨by rw [updB_ne (by decide)]; exact d9, by rw [updB_ne (by decide)]; exact d13⟩, fun j a b e => ?_, ?_⟩
  · rw [updB_ne a] at e; rw [updN_ne a]; exact h.pre j a b e
  · rw [updB_eq, updB_ne (by decide)]
    cases q : dn 17 <;> rw [q] at hA <;> exact hA
theorem SwG.laid17 (h : SwG g T c00 c10 c01 c11 F W dn us w) (d9 : dn 9 = true) (d13 : dn 13 = true) (_hd : dn 17 = false) {v : Value} (hA : At w' g T (match dn 15 with | false => c01 | true => c11)) (hO : Only (fun j => j = g) w w') : SwG g T c00 c10 c01 c11 F W (updB dn 17) (updN us 17 v) w' := by
  refine ⟨h.only.trans hO, fun _ => ⟨by rw [updB_ne (by decide)]; exact d9, by rw [updB_ne (by decide)]; exact d13⟩, fun j a b e => ?_, ?_⟩
  · rw [updB_ne b] at e; rw [updN_ne b]; exact h.pre j a b e
  · rw [updB_eq, updB_ne (by decide)]
    cases q : dn 15 <;> rw [q] at hA <;> exact hA
end

/-- A list with one element on its way into its place. -/
def midL (p : List (Int × Int)) (x : Int × Int) (j : Nat) (r : List (Int × Int)) : List (Int × Int) := p.take j ++ x :: (p.drop j ++ r)
theorem midL_at {p r : List (Int × Int)} {x : Int × Int} {j : Nat} {q : Int × Int} (hq : p[j]? = some q) : midL p x (j + 1) r = p.take j ++ [q, x] ++ (p.drop (j + 1) ++ r) ∧ midL p x j r = p.take j ++ [x, q] ++ (p.drop (j + 1) ++ r) := by
  obtain ⟨h1, h2⟩ := List.getElem?_eq_some_iff.1 hq
  unfold midL
  refine ⟨?_, ?_⟩
  · rw [List.take_add_one, hq]; simp
  · rw [List.drop_eq_getElem_cons h1, h2]; simp

set_option maxRecDepth 100000 in
set_option maxHeartbeats 4000000 in
theorem insertion_any (l : List (Int × Int)) (g cap : Nat) (rest : List Value) (w : World) (hA : At w g 48 (pairsV l ++ rest).toArray) (hl : l.length ≤ 1000) :
    Calls Try.prog 124 #[.slice (some ⟨g, 0, none⟩) l.length cap, .int .i64 0, .int .i64 l.length, .func (.func 61) #[] #[]] w fun e w' => e = .returned (.tuple #[]) ∧ At w' g 48 (pairsV (isort l) ++ rest).toArray ∧ Only (fun j => j = g) w w' := by
  have HA0 := Lib.hid hA
  clear hA
  go_enter Try.func124, Try.ntmps124
  go_wp2_with fail
  go_loopg [8] l.length (fun gg v8 wr => ∃ i : Nat, v8 = .int .i64 i ∧ i + gg = l.length + 1 ∧ 1 ≤ i ∧ (l = [] ∨ i ≤ l.length) ∧ At wr g 48 (pairsV (isort (l.take i) ++ l.drop i) ++ rest).toArray ∧ Only (fun j => j = g) w wr)
  case atStart =>
    refine ⟨1, rfl, by omega, by omega, ?_, ?_, Only.refl _ _⟩
    · cases l with
      | nil => exact .inl rfl
      | cons a l => exact .inr (by simp)
    · cases l with
      | nil => exact HA0.out
      | cons a l => exact HA0.out
  case round =>
    obtain ⟨i, rfl, hi, hi1, hil, hA, hO⟩ := hrel
    by_cases hlt : i < l.length
    · obtain ⟨x, hx⟩ : ∃ x, l[i]? = some x := ⟨_, List.getElem?_eq_getElem hlt⟩
      obtain ⟨hpl, hps⟩ := isort_run l i (by omega)
      have hdr : l.drop i = x :: l.drop (i + 1) := by
        obtain ⟨h1, h2⟩ := List.getElem?_eq_some_iff.1 hx
        rw [List.drop_eq_getElem_cons h1, h2]
      have htk : isort (l.take (i + 1)) = insPair (isort (l.take i)) x := by
        have e : l.take (i + 1) = l.take i ++ [x] := by rw [List.take_add_one, hx]; rfl
        rw [e, isort_snoc]
      have hA' : At wr g 48 (pairsV (midL (isort (l.take i)) x i (l.drop (i + 1))) ++ rest).toArray := by
        have e : midL (isort (l.take i)) x i (l.drop (i + 1)) = isort (l.take i) ++ l.drop i := by
          unfold midL
          rw [List.take_of_length_le (by omega), List.drop_eq_nil_of_le (by omega), hdr]; simp
        rw [e]; exact hA
      have HT := Lib.hid htk
      have HPS := Lib.hid hps
      have HPL := Lib.hid hpl
      generalize isort (l.take i) = p at *
      clear hdr hx hps hpl htk hA
      go_wp2_with fail
      go_loopg [9] i (fun gg v9 wr => ∃ j : Nat, v9 = .int .i64 j ∧ j ≤ gg ∧ j ≤ i ∧ (∀ y ∈ p.drop j, x.1 < y.1) ∧ At wr g 48 (pairsV (midL p x j (l.drop (i + 1))) ++ rest).toArray ∧ Only (fun j => j = g) w wr)
      case atStart => exact ⟨i, rfl, Nat.le_refl _, Nat.le_refl _, by rw [List.drop_eq_nil_of_le (by have := HPL.out; omega)]; simp, hA', hO⟩
      case round =>
        obtain ⟨j, rfl, hj, hji, hgt, hAi, hOi⟩ := hrel
        have HG := Lib.hid hgt
        clear hgt hA' hO
        cases j with
        | zero =>
          go_wp2_with fail
          refine wp_region_J (l := [_, _, _, _, _, _, _, _, _, _, _, _, _, _, _, _, _]) (QG (fun j v => match j with | 0 => v = .int .i64 ((0 : Nat) : Int) | 1 => v = .int .i64 0 | 2 => v = .bool false | 3 => v = .bool false | 16 => v = .bool false | _ => True) wr) (by kernel_rfl) (by kernel_rfl) (fun us => QG.start us) ⟨?_, ?_, ?_, ?_, ?_, ?_, ?_, ?_, ?_, ?_, ?_, ?_, ?_, ?_, ?_, ?_, ?_, trivial⟩ ?_
          · intro dn us w6 A hev hy hG hdn hdep K hK
            have e0 : A.eval (.tmp 9) = .int .i64 ((0 : Nat) : Int) := by rw [hev]; rfl
            rw [if_pos (by rfl)]
            unfold Oper.wp execOp
            generalize A.eval = ev at e0 ⊢
            go_simp
            exact hK _ _ (hG.first (by first | rfl | simp | (simp; omega)))
          · intro dn us w6 A hev hy hG hdn hdep K hK
            have e0 : A.eval (.tmp 1) = .int .i64 0 := by rw [hev]; rfl
            rw [if_pos (by rfl)]
            unfold Oper.wp execOp
            generalize A.eval = ev at e0 ⊢
            go_simp
            exact hK _ _ (hG.first (by first | rfl | simp | (simp; omega)))
          · intro dn us w6 A hev hy hG hdn hdep K hK
            have d0 : dn 0 = true := allD_mem hdep (by decide)
            have d1 : dn 1 = true := allD_mem hdep (by decide)
            have e0 : A.eval (.tmp 18) = .int .i64 ((0 : Nat) : Int) := by rw [hev]; exact hG.pre 0 d0
            have e1 : A.eval (.tmp 19) = .int .i64 0 := by rw [hev]; exact hG.pre 1 d1
            rw [if_pos (by rfl)]
            unfold Oper.wp execOp
            generalize A.eval = ev at e0 e1 ⊢
            go_simp
            exact hK _ _ (hG.first (by first | rfl | simp | (simp; omega)))
          · intro dn us w6 A hev hy hG hdn hdep K hK
            have d2 : dn 2 = true := allD_mem hdep (by decide)
            have e0 : A.eval (.tmp 20) = .bool false := by rw [hev]; exact hG.pre 2 d2
            rw [if_pos (by rfl)]
            unfold Oper.wp execOp
            generalize A.eval = ev at e0 ⊢
            go_simp
            exact hK _ _ (hG.first (by first | rfl | simp | (simp; omega)))
          · intro dn us w6 A hev hy hG hdn hdep K hK
            have d3 : dn 3 = true := allD_mem hdep (by decide)
            have hg : us 3 = .bool false := hG.pre 3 d3
            rw [if_neg (by rw [hy]; show ¬ ((match us 3 with | .bool b => some b | _ => none) == some true) = true; rw [hg]; decide)]
            exact hK _ _ (hG.first trivial)
          · intro dn us w6 A hev hy hG hdn hdep K hK
            have d3 : dn 3 = true := allD_mem hdep (by decide)
            have hg : us 3 = .bool false := hG.pre 3 d3
            rw [if_neg (by rw [hy]; show ¬ ((match us 3 with | .bool b => some b | _ => none) == some true) = true; rw [hg]; decide)]
            exact hK _ _ (hG.first trivial)
          · intro dn us w6 A hev hy hG hdn hdep K hK
            have d3 : dn 3 = true := allD_mem hdep (by decide)
            have hg : us 3 = .bool false := hG.pre 3 d3
            rw [if_neg (by rw [hy]; show ¬ ((match us 3 with | .bool b => some b | _ => none) == some true) = true; rw [hg]; decide)]
            exact hK _ _ (hG.first trivial)
          · intro dn us w6 A hev hy hG hdn hdep K hK
            have d3 : dn 3 = true := allD_mem hdep (by decide)
            have hg : us 3 = .bool false := hG.pre 3 d3
            rw [if_neg (by rw [hy]; show ¬ ((match us 3 with | .bool b => some b | _ => none) == some true) = true; rw [hg]; decide)]
            exact hK _ _ (hG.first trivial)
          · intro dn us w6 A hev hy hG hdn hdep K hK
            have d3 : dn 3 = true := allD_mem hdep (by decide)
            have hg : us 3 = .bool false := hG.pre 3 d3
            rw [if_neg (by rw [hy]; show ¬ ((match us 3 with | .bool b => some b | _ => none) == some true) = true; rw [hg]; decide)]
            exact hK _ _ (hG.first trivial)
          · intro dn us w6 A hev hy hG hdn hdep K hK
            have d3 : dn 3 = true := allD_mem hdep (by decide)
            have hg : us 3 = .bool false := hG.pre 3 d3
            rw [if_neg (by rw [hy]; show ¬ ((match us 3 with | .bool b => some b | _ => none) == some true) = true; rw [hg]; decide)]
            exact hK _ _ (hG.first trivial)
          · intro dn us w6 A hev hy hG hdn hdep K hK
            have d3 : dn 3 = true := allD_mem hdep (by decide)
            have hg : us 3 = .bool false := hG.pre 3 d3
            rw [if_neg (by rw [hy]; show ¬ ((match us 3 with | .bool b => some b | _ => none) == some true) = true; rw [hg]; decide)]
            exact hK _ _ (hG.first trivial)
          · intro dn us w6 A hev hy hG hdn hdep K hK
            have d3 : dn 3 = true := allD_mem hdep (by decide)
            have e0 : A.eval (.const (.int .i64 1)) = .int .i64 1 := by rw [hev]; rfl
            have hg : us 3 = .bool false := hG.pre 3 d3
            rw [if_neg (by rw [hy]; show ¬ ((match us 3 with | .bool b => some b | _ => none) == some true) = true; rw [hg]; decide)]
            exact hK _ _ (hG.first trivial)
          · intro dn us w6 A hev hy hG hdn hdep K hK
            have d3 : dn 3 = true := allD_mem hdep (by decide)
            have hg : us 3 = .bool false := hG.pre 3 d3
            rw [if_neg (by rw [hy]; show ¬ ((match us 3 with | .bool b => some b | _ => none) == some true) = true; rw [hg]; decide)]
            exact hK _ _ (hG.first trivial)
          · intro dn us w6 A hev hy hG hdn hdep K hK
            have d3 : dn 3 = true := allD_mem hdep (by decide)
            have hg : us 3 = .bool false := hG.pre 3 d3
            rw [if_neg (by rw [hy]; show ¬ ((match us 3 with | .bool b => some b | _ => none) == some true) = true; rw [hg]; decide)]
            exact hK _ _ (hG.first trivial)
          · intro dn us w6 A hev hy hG hdn hdep K hK
            have d3 : dn 3 = true := allD_mem hdep (by decide)
            have hg : us 3 = .bool false := hG.pre 3 d3
            rw [if_neg (by rw [hy]; show ¬ ((match us 3 with | .bool b => some b | _ => none) == some true) = true; rw [hg]; decide)]
            exact hK _ _ (hG.first trivial)
          · intro dn us w6 A hev hy hG hdn hdep K hK
            have d3 : dn 3 = true := allD_mem hdep (by decide)
            have e0 : A.eval (.const (.int .i64 0)) = .int .i64 0 := by rw [hev]; rfl
            have hg : us 3 = .bool false := hG.pre 3 d3
            rw [if_neg (by rw [hy]; show ¬ ((match us 3 with | .bool b => some b | _ => none) == some true) = true; rw [hg]; decide)]
            exact hK _ _ (hG.first trivial)
          · intro dn us w6 A hev hy hG hdn hdep K hK
            have d3 : dn 3 = true := allD_mem hdep (by decide)
            have e0 : A.eval (.tmp 21) = .bool false := by rw [hev]; exact hG.pre 3 d3
            have e1 : A.eval (.const (.bool false)) = .bool false := by rw [hev]; rfl
            rw [if_pos (by rfl)]
            unfold Oper.wp execOp
            generalize A.eval = ev at e0 e1 ⊢
            go_simp
            exact hK _ _ (hG.first (by first | rfl | simp | (simp; omega)))
          intro dn us w7 hG hall
          have u16 : us 16 = .bool false := hG.pre 16 (hall 16 (by decide))
          have hb7 := hG.below
          simp only [fillA, fillT, Nat.reduceAdd, List.setIfInBounds_toArray, List.set_cons_zero, List.set_cons_succ, u16]
          clear hG hall u16
          have e := insPair_at HPS.out (Nat.zero_le _) HG.out (.inl rfl)
          have hA7 : At w7 g 48 (pairsV (insPair p x ++ l.drop (i + 1)) ++ rest).toArray := by
            rw [e]
            have e2 : p.take 0 ++ x :: p.drop 0 ++ l.drop (i + 1) = midL p x 0 (l.drop (i + 1)) := by unfold midL; simp
            rw [e2]; exact hAi.below' hb7
          have hO7 := hOi.thenBelow hb7
          clear hAi hOi e
          go_wp2_with fail
          go_roundg (l.length - i)
          case measure => omega
          case rel => exact ⟨i + 1, rfl, by omega, by omega, .inr (by omega), by rw [HT.out]; exact hA7, hO7⟩
        | succ m =>
          obtain ⟨q, hq⟩ : ∃ q, p[m]? = some q := ⟨_, List.getElem?_eq_getElem (by have := HPL.out; omega)⟩
          obtain ⟨hm1, hm2⟩ := midL_at (x := x) (r := l.drop (i + 1)) hq
          have hc0 : pairsV (midL p x (m + 1) (l.drop (i + 1))) ++ rest = pairsV (p.take m) ++ [.int .u64 q.1, .int .u64 q.2, .int .u64 x.1, .int .u64 x.2] ++ (pairsV (p.drop (m + 1) ++ l.drop (i + 1)) ++ rest) := by
            rw [hm1, pairsV_append, pairsV_append, show pairsV [q, x] = [.int .u64 q.1, .int .u64 q.2, .int .u64 x.1, .int .u64 x.2] from rfl]; simp only [List.append_assoc]
          have hc1 : pairsV (midL p x m (l.drop (i + 1))) ++ rest = pairsV (p.take m) ++ [.int .u64 x.1, .int .u64 x.2, .int .u64 q.1, .int .u64 q.2] ++ (pairsV (p.drop (m + 1) ++ l.drop (i + 1)) ++ rest) := by
            rw [hm2, pairsV_append, pairsV_append, show pairsV [x, q] = [.int .u64 x.1, .int .u64 x.2, .int .u64 q.1, .int .u64 q.2] from rfl]; simp only [List.append_assoc]
          have hpl : (pairsV (p.take m)).length = m * 2 := by rw [pairsV_len, List.length_take]; have := HPL.out; omega
          have hdq : p.drop m = q :: p.drop (m + 1) := by
            obtain ⟨h1, h2⟩ := List.getElem?_eq_some_iff.1 hq
            rw [List.drop_eq_getElem_cons h1, h2]
          rw [hc0] at hAi
          have HC1 := Lib.hid hc1
          have HDQ := Lib.hid hdq
          have HQ := Lib.hid hq
          have HM := Lib.hid hc0
          clear hm1 hm2 hc0 hc1 hdq hq
          generalize pairsV (p.take m) = pre at *
          generalize pairsV (p.drop (m + 1) ++ l.drop (i + 1)) ++ rest = tl at *
          have HA := Lib.hid hAi
          have ej : IntKind.i64.wrap (((m + 1 : Nat) : Int) - 1) = (m : Int) := by rw [IntWalk.i64_in _ (by omega)]; omega
          have hb0 : (0 : Int) ≤ (m : Int) + 1 := by omega
          have hb1 : (m : Int) + 1 < (l.length : Int) := by omega
          have hb2 : m < l.length := by omega
          have ej2 : IntKind.i64.wrap (m : Int) = (m : Int) := IntWalk.i64_in _ (by omega)
          by_cases hxq : x.1 < q.1
          · have hc : cmpI x.1 q.1 = -1 := if_pos hxq
            have HC := Lib.hid hc
            clear hc
            go_wp2_with fail
            refine wp_region_J (l := [_, _, _, _, _, _, _, _, _, _, _, _, _, _, _, _, _]) (QG (fun j v => match j with | 0 => v = .int .i64 ((m + 1 : Nat) : Int) | 1 => v = .int .i64 0 | 2 => v = .bool true | 3 => v = .bool true | 4 => v = .func (.func 61) #[] #[] | 5 => v = .slice (some ⟨g, 0, none⟩) l.length cap | 6 => v = .int .i64 ((m + 1 : Nat) : Int) | 7 => v = .pointer (some ⟨g, m * 2 + 2, none⟩) | 8 => v = .agg #[.int .u64 x.1, .int .u64 x.2] | 9 => v = .slice (some ⟨g, 0, none⟩) l.length cap | 10 => v = .int .i64 ((m + 1 : Nat) : Int) | 11 => v = .int .i64 (m : Int) | 12 => v = .pointer (some ⟨g, m * 2, none⟩) | 13 => v = .agg #[.int .u64 q.1, .int .u64 q.2] | 14 => v = .int .i64 (-1) | 15 => v = .bool true | 16 => v = .bool true | _ => True) wr) (by kernel_rfl) (by kernel_rfl) (fun us => QG.start us) ⟨?_, ?_, ?_, ?_, ?_, ?_, ?_, ?_, ?_, ?_, ?_, ?_, ?_, ?_, ?_, ?_, ?_, trivial⟩ ?_
            · intro dn us w6 A hev hy hG hdn hdep K hK
              have e0 : A.eval (.tmp 9) = .int .i64 ((m + 1 : Nat) : Int) := by rw [hev]; rfl
              rw [if_pos (by rfl)]
              unfold Oper.wp execOp
              generalize A.eval = ev at e0 ⊢
              go_simp
              exact hK _ _ (hG.first (by first | rfl | simp | (simp; omega)))
            · intro dn us w6 A hev hy hG hdn hdep K hK
              have e0 : A.eval (.tmp 1) = .int .i64 0 := by rw [hev]; rfl
              rw [if_pos (by rfl)]
              unfold Oper.wp execOp
              generalize A.eval = ev at e0 ⊢
              go_simp
              exact hK _ _ (hG.first (by first | rfl | simp | (simp; omega)))
            · intro dn us w6 A hev hy hG hdn hdep K hK
              have d0 : dn 0 = true := allD_mem hdep (by decide)
              have d1 : dn 1 = true := allD_mem hdep (by decide)
              have e0 : A.eval (.tmp 18) = .int .i64 ((m + 1 : Nat) : Int) := by rw [hev]; exact hG.pre 0 d0
              have e1 : A.eval (.tmp 19) = .int .i64 0 := by rw [hev]; exact hG.pre 1 d1
              rw [if_pos (by rfl)]
              unfold Oper.wp execOp
              generalize A.eval = ev at e0 e1 ⊢
              go_simp
              exact hK _ _ (hG.first (by first | rfl | simp | (simp; omega)))
            · intro dn us w6 A hev hy hG hdn hdep K hK
              have d2 : dn 2 = true := allD_mem hdep (by decide)
              have e0 : A.eval (.tmp 20) = .bool true := by rw [hev]; exact hG.pre 2 d2
              rw [if_pos (by rfl)]
              unfold Oper.wp execOp
              generalize A.eval = ev at e0 ⊢
              go_simp
              exact hK _ _ (hG.first (by first | rfl | simp | (simp; omega)))
            · intro dn us w6 A hev hy hG hdn hdep K hK
              have d3 : dn 3 = true := allD_mem hdep (by decide)
              have e0 : A.eval (.tmp 3) = .func (.func 61) #[] #[] := by rw [hev]; rfl
              have hg : us 3 = .bool true := hG.pre 3 d3
              rw [if_pos (by rw [hy]; show ((match us 3 with | .bool b => some b | _ => none) == some true) = true; rw [hg]; rfl)]
              unfold Oper.wp execOp
              generalize A.eval = ev at e0 ⊢
              go_simp
              exact hK _ _ (hG.first (by first | rfl | simp | (simp; omega)))
            · intro dn us w6 A hev hy hG hdn hdep K hK
              have d3 : dn 3 = true := allD_mem hdep (by decide)
              have e0 : A.eval (.tmp 0) = .slice (some ⟨g, 0, none⟩) l.length cap := by rw [hev]; rfl
              have hg : us 3 = .bool true := hG.pre 3 d3
              rw [if_pos (by rw [hy]; show ((match us 3 with | .bool b => some b | _ => none) == some true) = true; rw [hg]; rfl)]
              unfold Oper.wp execOp
              generalize A.eval = ev at e0 ⊢
              go_simp
              exact hK _ _ (hG.first (by first | rfl | simp | (simp; omega)))
            · intro dn us w6 A hev hy hG hdn hdep K hK
              have d3 : dn 3 = true := allD_mem hdep (by decide)
              have e0 : A.eval (.tmp 9) = .int .i64 ((m + 1 : Nat) : Int) := by rw [hev]; rfl
              have hg : us 3 = .bool true := hG.pre 3 d3
              rw [if_pos (by rw [hy]; show ((match us 3 with | .bool b => some b | _ => none) == some true) = true; rw [hg]; rfl)]
              unfold Oper.wp execOp
              generalize A.eval = ev at e0 ⊢
              go_simp
              exact hK _ _ (hG.first (by first | rfl | simp | (simp; omega)))
            · intro dn us w6 A hev hy hG hdn hdep K hK
              have d3 : dn 3 = true := allD_mem hdep (by decide)
              have d5 : dn 5 = true := allD_mem hdep (by decide)
              have d6 : dn 6 = true := allD_mem hdep (by decide)
              have e0 : A.eval (.tmp 23) = .slice (some ⟨g, 0, none⟩) l.length cap := by rw [hev]; exact hG.pre 5 d5
              have e1 : A.eval (.tmp 24) = .int .i64 ((m + 1 : Nat) : Int) := by rw [hev]; exact hG.pre 6 d6
              have hg : us 3 = .bool true := hG.pre 3 d3
              rw [if_pos (by rw [hy]; show ((match us 3 with | .bool b => some b | _ => none) == some true) = true; rw [hg]; rfl)]
              unfold Oper.wp execOp
              generalize A.eval = ev at e0 e1 ⊢
              go_simp
              exact hK _ _ (hG.first (by first | rfl | simp | (simp; omega)))
            · intro dn us w6 A hev hy hG hdn hdep K hK
              have d3 : dn 3 = true := allD_mem hdep (by decide)
              have d7 : dn 7 = true := allD_mem hdep (by decide)
              have e0 : A.eval (.tmp 25) = .pointer (some ⟨g, m * 2 + 2, none⟩) := by rw [hev]; exact hG.pre 7 d7
              have hg : us 3 = .bool true := hG.pre 3 d3
              rw [if_pos (by rw [hy]; show ((match us 3 with | .bool b => some b | _ => none) == some true) = true; rw [hg]; rfl)]
              refine op_ld 48 (.tmp 25) rfl (#[.int .u64 x.1, .int .u64 x.2]) e0 _ (HA.out.below' hG.below) Try.underlying48 rfl (by kernel_rfl) (four_hi hpl) ?_
              exact hK _ _ (hG.first rfl)
            · intro dn us w6 A hev hy hG hdn hdep K hK
              have d3 : dn 3 = true := allD_mem hdep (by decide)
              have e0 : A.eval (.tmp 0) = .slice (some ⟨g, 0, none⟩) l.length cap := by rw [hev]; rfl
              have hg : us 3 = .bool true := hG.pre 3 d3
              rw [if_pos (by rw [hy]; show ((match us 3 with | .bool b => some b | _ => none) == some true) = true; rw [hg]; rfl)]
              unfold Oper.wp execOp
              generalize A.eval = ev at e0 ⊢
              go_simp
              exact hK _ _ (hG.first (by first | rfl | simp | (simp; omega)))
            · intro dn us w6 A hev hy hG hdn hdep K hK
              have d3 : dn 3 = true := allD_mem hdep (by decide)
              have e0 : A.eval (.tmp 9) = .int .i64 ((m + 1 : Nat) : Int) := by rw [hev]; rfl
              have hg : us 3 = .bool true := hG.pre 3 d3
              rw [if_pos (by rw [hy]; show ((match us 3 with | .bool b => some b | _ => none) == some true) = true; rw [hg]; rfl)]
              unfold Oper.wp execOp
              generalize A.eval = ev at e0 ⊢
              go_simp
              exact hK _ _ (hG.first (by first | rfl | simp | (simp; omega)))
            · intro dn us w6 A hev hy hG hdn hdep K hK
              have d3 : dn 3 = true := allD_mem hdep (by decide)
              have d10 : dn 10 = true := allD_mem hdep (by decide)
              have e0 : A.eval (.tmp 28) = .int .i64 ((m + 1 : Nat) : Int) := by rw [hev]; exact hG.pre 10 d10
              have e1 : A.eval (.const (.int .i64 1)) = .int .i64 1 := by rw [hev]; rfl
              have hg : us 3 = .bool true := hG.pre 3 d3
              rw [if_pos (by rw [hy]; show ((match us 3 with | .bool b => some b | _ => none) == some true) = true; rw [hg]; rfl)]
              unfold Oper.wp execOp
              generalize A.eval = ev at e0 e1 ⊢
              go_simp
              exact hK _ _ (hG.first (by first | rfl | simp | (simp; omega)))
            · intro dn us w6 A hev hy hG hdn hdep K hK
              have d3 : dn 3 = true := allD_mem hdep (by decide)
              have d9 : dn 9 = true := allD_mem hdep (by decide)
              have d11 : dn 11 = true := allD_mem hdep (by decide)
              have e0 : A.eval (.tmp 27) = .slice (some ⟨g, 0, none⟩) l.length cap := by rw [hev]; exact hG.pre 9 d9
              have e1 : A.eval (.tmp 29) = .int .i64 (m : Int) := by rw [hev]; exact hG.pre 11 d11
              have hg : us 3 = .bool true := hG.pre 3 d3
              rw [if_pos (by rw [hy]; show ((match us 3 with | .bool b => some b | _ => none) == some true) = true; rw [hg]; rfl)]
              unfold Oper.wp execOp
              generalize A.eval = ev at e0 e1 ⊢
              go_simp
              exact hK _ _ (hG.first (by first | rfl | simp | (simp; omega)))
            · intro dn us w6 A hev hy hG hdn hdep K hK
              have d3 : dn 3 = true := allD_mem hdep (by decide)
              have d12 : dn 12 = true := allD_mem hdep (by decide)
              have e0 : A.eval (.tmp 30) = .pointer (some ⟨g, m * 2, none⟩) := by rw [hev]; exact hG.pre 12 d12
              have hg : us 3 = .bool true := hG.pre 3 d3
              rw [if_pos (by rw [hy]; show ((match us 3 with | .bool b => some b | _ => none) == some true) = true; rw [hg]; rfl)]
              refine op_ld 48 (.tmp 30) rfl (#[.int .u64 q.1, .int .u64 q.2]) e0 _ (HA.out.below' hG.below) Try.underlying48 rfl (by kernel_rfl) (four_lo hpl) ?_
              exact hK _ _ (hG.first rfl)
            · intro dn us w6 A hev hy hG hdn hdep K hK
              have d3 : dn 3 = true := allD_mem hdep (by decide)
              have d4 : dn 4 = true := allD_mem hdep (by decide)
              have d8 : dn 8 = true := allD_mem hdep (by decide)
              have d13 : dn 13 = true := allD_mem hdep (by decide)
              have e0 : A.eval (.tmp 22) = .func (.func 61) #[] #[] := by rw [hev]; exact hG.pre 4 d4
              have e1 : A.eval (.tmp 26) = .agg #[.int .u64 x.1, .int .u64 x.2] := by rw [hev]; exact hG.pre 8 d8
              have e2 : A.eval (.tmp 31) = .agg #[.int .u64 q.1, .int .u64 q.2] := by rw [hev]; exact hG.pre 13 d13
              have hg : us 3 = .bool true := hG.pre 3 d3
              rw [if_pos (by rw [hy]; show ((match us 3 with | .bool b => some b | _ => none) == some true) = true; rw [hg]; rfl)]
              unfold Oper.wp execOp
              generalize A.eval = ev at e0 e1 e2 ⊢
              go_simp
              refine (cmp1_any x q _).mono ?_
              rintro e wq ⟨rfl, hb⟩
              exact hK _ _ (hG.called (by rw [HC.out]; rfl) hb)
            · intro dn us w6 A hev hy hG hdn hdep K hK
              have d3 : dn 3 = true := allD_mem hdep (by decide)
              have d14 : dn 14 = true := allD_mem hdep (by decide)
              have e0 : A.eval (.tmp 32) = .int .i64 (-1) := by rw [hev]; exact hG.pre 14 d14
              have e1 : A.eval (.const (.int .i64 0)) = .int .i64 0 := by rw [hev]; rfl
              have hg : us 3 = .bool true := hG.pre 3 d3
              rw [if_pos (by rw [hy]; show ((match us 3 with | .bool b => some b | _ => none) == some true) = true; rw [hg]; rfl)]
              unfold Oper.wp execOp
              generalize A.eval = ev at e0 e1 ⊢
              go_simp
              exact hK _ _ (hG.first (by first | rfl | simp | (simp; omega)))
            · intro dn us w6 A hev hy hG hdn hdep K hK
              have d3 : dn 3 = true := allD_mem hdep (by decide)
              have d15 : dn 15 = true := allD_mem hdep (by decide)
              have e0 : A.eval (.tmp 21) = .bool true := by rw [hev]; exact hG.pre 3 d3
              have e1 : A.eval (.tmp 33) = .bool true := by rw [hev]; exact hG.pre 15 d15
              have e2 : A.eval (.const (.bool false)) = .bool false := by rw [hev]; rfl
              rw [if_pos (by rfl)]
              unfold Oper.wp execOp
              generalize A.eval = ev at e0 e1 e2 ⊢
              go_simp
              exact hK _ _ (hG.first (by first | rfl | simp | (simp; omega)))
            intro dn us wj hG hall
            have u16 : us 16 = .bool true := hG.pre 16 (hall 16 (by decide))
            have hb7 := hG.below
            simp only [fillA, fillT, Nat.reduceAdd, List.setIfInBounds_toArray, List.set_cons_zero, List.set_cons_succ, u16]
            clear hG hall u16
            have hAj := hAi.below' hb7
            have hOj := hOi.thenBelow hb7
            clear hAi hOi hb7
            go_wp2_with fail
            refine wp_region_J (l := [_, _, _, _, _, _, _, _, _, _, _, _, _, _, _, _, _, _]) (SwG g 48 ((pre ++ [Value.int .u64 q.1, Value.int .u64 q.2, Value.int .u64 x.1, Value.int .u64 x.2] ++ tl).toArray) ((pre ++ [Value.int .u64 q.1, Value.int .u64 q.2, Value.int .u64 q.1, Value.int .u64 q.2] ++ tl).toArray) ((pre ++ [Value.int .u64 x.1, Value.int .u64 x.2, Value.int .u64 x.1, Value.int .u64 x.2] ++ tl).toArray) ((pre ++ [Value.int .u64 x.1, Value.int .u64 x.2, Value.int .u64 q.1, Value.int .u64 q.2] ++ tl).toArray) (fun j v => match j with | 0 => v = .slice (some ⟨g, 0, none⟩) l.length cap | 1 => v = .int .i64 ((m + 1 : Nat) : Int) | 2 => v = .slice (some ⟨g, 0, none⟩) l.length cap | 3 => v = .int .i64 ((m + 1 : Nat) : Int) | 4 => v = .int .i64 (m : Int) | 5 => v = .slice (some ⟨g, 0, none⟩) l.length cap | 6 => v = .int .i64 ((m + 1 : Nat) : Int) | 7 => v = .int .i64 (m : Int) | 8 => v = .pointer (some ⟨g, m * 2, none⟩) | 9 => v = .agg #[.int .u64 q.1, .int .u64 q.2] | 10 => v = .slice (some ⟨g, 0, none⟩) l.length cap | 11 => v = .int .i64 ((m + 1 : Nat) : Int) | 12 => v = .pointer (some ⟨g, m * 2 + 2, none⟩) | 13 => v = .agg #[.int .u64 x.1, .int .u64 x.2] | 14 => v = .pointer (some ⟨g, m * 2 + 2, none⟩) | 16 => v = .pointer (some ⟨g, m * 2, none⟩) | _ => True) wj.drew) (by kernel_rfl) (by kernel_rfl) (fun us => SwG.start us hAj.drew) ⟨?_, ?_, ?_, ?_, ?_, ?_, ?_, ?_, ?_, ?_, ?_, ?_, ?_, ?_, ?_, ?_, ?_, ?_, trivial⟩ ?_
            · intro dn us w6 A hev hy hG hdn hdep K hK
              have e0 : A.eval (.tmp 0) = .slice (some ⟨g, 0, none⟩) l.length cap := by rw [hev]; rfl
              rw [if_pos (by rfl)]
              unfold Oper.wp execOp
              generalize A.eval = ev at e0 ⊢
              go_simp
              exact hK _ _ (hG.first (by decide) (by decide) (by first | rfl | simp | (simp; omega)))
            · intro dn us w6 A hev hy hG hdn hdep K hK
              have e0 : A.eval (.tmp 9) = .int .i64 ((m + 1 : Nat) : Int) := by rw [hev]; rfl
              rw [if_pos (by rfl)]
              unfold Oper.wp execOp
              generalize A.eval = ev at e0 ⊢
              go_simp
              exact hK _ _ (hG.first (by decide) (by decide) (by first | rfl | simp | (simp; omega)))
            · intro dn us w6 A hev hy hG hdn hdep K hK
              have e0 : A.eval (.tmp 0) = .slice (some ⟨g, 0, none⟩) l.length cap := by rw [hev]; rfl
              rw [if_pos (by rfl)]
              unfold Oper.wp execOp
              generalize A.eval = ev at e0 ⊢
              go_simp
              exact hK _ _ (hG.first (by decide) (by decide) (by first | rfl | simp | (simp; omega)))
            · intro dn us w6 A hev hy hG hdn hdep K hK
              have e0 : A.eval (.tmp 9) = .int .i64 ((m + 1 : Nat) : Int) := by rw [hev]; rfl
              rw [if_pos (by rfl)]
              unfold Oper.wp execOp
              generalize A.eval = ev at e0 ⊢
              go_simp
              exact hK _ _ (hG.first (by decide) (by decide) (by first | rfl | simp | (simp; omega)))
            · intro dn us w6 A hev hy hG hdn hdep K hK
              have d3 : dn 3 = true := allD_mem hdep (by decide)
              have e0 : A.eval (.tmp 40) = .int .i64 ((m + 1 : Nat) : Int) := by rw [hev]; exact hG.pre 3 (by decide) (by decide) d3
              have e1 : A.eval (.const (.int .i64 1)) = .int .i64 1 := by rw [hev]; rfl
              rw [if_pos (by rfl)]
              unfold Oper.wp execOp
              generalize A.eval = ev at e0 e1 ⊢
              go_simp
              exact hK _ _ (hG.first (by decide) (by decide) (by first | rfl | simp | (simp; omega)))
            · intro dn us w6 A hev hy hG hdn hdep K hK
              have e0 : A.eval (.tmp 0) = .slice (some ⟨g, 0, none⟩) l.length cap := by rw [hev]; rfl
              rw [if_pos (by rfl)]
              unfold Oper.wp execOp
              generalize A.eval = ev at e0 ⊢
              go_simp
              exact hK _ _ (hG.first (by decide) (by decide) (by first | rfl | simp | (simp; omega)))
            · intro dn us w6 A hev hy hG hdn hdep K hK
              have e0 : A.eval (.tmp 9) = .int .i64 ((m + 1 : Nat) : Int) := by rw [hev]; rfl
              rw [if_pos (by rfl)]
              unfold Oper.wp execOp
              generalize A.eval = ev at e0 ⊢
              go_simp
              exact hK _ _ (hG.first (by decide) (by decide) (by first | rfl | simp | (simp; omega)))
            · intro dn us w6 A hev hy hG hdn hdep K hK
              have d6 : dn 6 = true := allD_mem hdep (by decide)
              have e0 : A.eval (.tmp 43) = .int .i64 ((m + 1 : Nat) : Int) := by rw [hev]; exact hG.pre 6 (by decide) (by decide) d6
              have e1 : A.eval (.const (.int .i64 1)) = .int .i64 1 := by rw [hev]; rfl
              rw [if_pos (by rfl)]
              unfold Oper.wp execOp
              generalize A.eval = ev at e0 e1 ⊢
              go_simp
              exact hK _ _ (hG.first (by decide) (by decide) (by first | rfl | simp | (simp; omega)))
            · intro dn us w6 A hev hy hG hdn hdep K hK
              have d5 : dn 5 = true := allD_mem hdep (by decide)
              have d7 : dn 7 = true := allD_mem hdep (by decide)
              have e0 : A.eval (.tmp 42) = .slice (some ⟨g, 0, none⟩) l.length cap := by rw [hev]; exact hG.pre 5 (by decide) (by decide) d5
              have e1 : A.eval (.tmp 44) = .int .i64 (m : Int) := by rw [hev]; exact hG.pre 7 (by decide) (by decide) d7
              rw [if_pos (by rfl)]
              unfold Oper.wp execOp
              generalize A.eval = ev at e0 e1 ⊢
              go_simp
              exact hK _ _ (hG.first (by decide) (by decide) (by first | rfl | simp | (simp; omega)))
            · intro dn us w6 A hev hy hG hdn hdep K hK
              have d8 : dn 8 = true := allD_mem hdep (by decide)
              have e0 : A.eval (.tmp 45) = .pointer (some ⟨g, m * 2, none⟩) := by rw [hev]; exact hG.pre 8 (by decide) (by decide) d8
              refine step_list (wpl_ld rfl 48 (.tmp 45) rfl (#[.int .u64 q.1, .int .u64 q.2]) e0 _ (hG.old9 hdn) Try.underlying48 rfl (by kernel_rfl) (four_lo hpl) ⟨rfl, ?_⟩)
              exact hK _ _ (hG.first (by decide) (by decide) rfl)
            · intro dn us w6 A hev hy hG hdn hdep K hK
              have e0 : A.eval (.tmp 0) = .slice (some ⟨g, 0, none⟩) l.length cap := by rw [hev]; rfl
              rw [if_pos (by rfl)]
              unfold Oper.wp execOp
              generalize A.eval = ev at e0 ⊢
              go_simp
              exact hK _ _ (hG.first (by decide) (by decide) (by first | rfl | simp | (simp; omega)))
            · intro dn us w6 A hev hy hG hdn hdep K hK
              have e0 : A.eval (.tmp 9) = .int .i64 ((m + 1 : Nat) : Int) := by rw [hev]; rfl
              rw [if_pos (by rfl)]
              unfold Oper.wp execOp
              generalize A.eval = ev at e0 ⊢
              go_simp
              exact hK _ _ (hG.first (by decide) (by decide) (by first | rfl | simp | (simp; omega)))
            · intro dn us w6 A hev hy hG hdn hdep K hK
              have d10 : dn 10 = true := allD_mem hdep (by decide)
              have d11 : dn 11 = true := allD_mem hdep (by decide)
              have e0 : A.eval (.tmp 47) = .slice (some ⟨g, 0, none⟩) l.length cap := by rw [hev]; exact hG.pre 10 (by decide) (by decide) d10
              have e1 : A.eval (.tmp 48) = .int .i64 ((m + 1 : Nat) : Int) := by rw [hev]; exact hG.pre 11 (by decide) (by decide) d11
              rw [if_pos (by rfl)]
              unfold Oper.wp execOp
              generalize A.eval = ev at e0 e1 ⊢
              go_simp
              exact hK _ _ (hG.first (by decide) (by decide) (by first | rfl | simp | (simp; omega)))
            · intro dn us w6 A hev hy hG hdn hdep K hK
              have d12 : dn 12 = true := allD_mem hdep (by decide)
              have e0 : A.eval (.tmp 49) = .pointer (some ⟨g, m * 2 + 2, none⟩) := by rw [hev]; exact hG.pre 12 (by decide) (by decide) d12
              refine step_list (wpl_ld rfl 48 (.tmp 49) rfl (#[.int .u64 x.1, .int .u64 x.2]) e0 _ (hG.old13 hdn) Try.underlying48 rfl (by kernel_rfl) (four_hi hpl) ⟨rfl, ?_⟩)
              exact hK _ _ (hG.first (by decide) (by decide) rfl)
            · intro dn us w6 A hev hy hG hdn hdep K hK
              have d0 : dn 0 = true := allD_mem hdep (by decide)
              have d1 : dn 1 = true := allD_mem hdep (by decide)
              have e0 : A.eval (.tmp 37) = .slice (some ⟨g, 0, none⟩) l.length cap := by rw [hev]; exact hG.pre 0 (by decide) (by decide) d0
              have e1 : A.eval (.tmp 38) = .int .i64 ((m + 1 : Nat) : Int) := by rw [hev]; exact hG.pre 1 (by decide) (by decide) d1
              rw [if_pos (by rfl)]
              unfold Oper.wp execOp
              generalize A.eval = ev at e0 e1 ⊢
              go_simp
              exact hK _ _ (hG.first (by decide) (by decide) (by first | rfl | simp | (simp; omega)))
            · intro dn us w6 A hev hy hG hdn hdep K hK
              have d9 : dn 9 = true := allD_mem hdep (by decide)
              have d13 : dn 13 = true := allD_mem hdep (by decide)
              have d14 : dn 14 = true := allD_mem hdep (by decide)
              have e0 : A.eval (.tmp 51) = .pointer (some ⟨g, m * 2 + 2, none⟩) := by rw [hev]; exact hG.pre 14 (by decide) (by decide) d14
              have e1 : A.eval (.tmp 46) = .agg #[.int .u64 q.1, .int .u64 q.2] := by rw [hev]; exact hG.pre 9 (by decide) (by decide) d9
              have h0 := hG.at_
              rw [hdn] at h0
              cases q0 : dn 17
              · rw [q0] at h0
                refine step_list (wpl_st rfl 48 (.tmp 51) (.tmp 46) rfl _ e0 _ e1 h0 (by kernel_rfl) rfl (congrArg List.toArray (put_hi hpl)) (Nat.ble_eq_true_of_le (by show _ + 2 ≤ _; simp; omega)) fun w7 A7 O7 => ⟨rfl, ?_⟩)
                exact hK _ _ (hG.laid15 d9 d13 hdn (by rw [q0]; exact A7) O7)
              · rw [q0] at h0
                refine step_list (wpl_st rfl 48 (.tmp 51) (.tmp 46) rfl _ e0 _ e1 h0 (by kernel_rfl) rfl (congrArg List.toArray (put_hi hpl)) (Nat.ble_eq_true_of_le (by show _ + 2 ≤ _; simp; omega)) fun w7 A7 O7 => ⟨rfl, ?_⟩)
                exact hK _ _ (hG.laid15 d9 d13 hdn (by rw [q0]; exact A7) O7)
            · intro dn us w6 A hev hy hG hdn hdep K hK
              have d2 : dn 2 = true := allD_mem hdep (by decide)
              have d4 : dn 4 = true := allD_mem hdep (by decide)
              have e0 : A.eval (.tmp 39) = .slice (some ⟨g, 0, none⟩) l.length cap := by rw [hev]; exact hG.pre 2 (by decide) (by decide) d2
              have e1 : A.eval (.tmp 41) = .int .i64 (m : Int) := by rw [hev]; exact hG.pre 4 (by decide) (by decide) d4
              rw [if_pos (by rfl)]
              unfold Oper.wp execOp
              generalize A.eval = ev at e0 e1 ⊢
              go_simp
              exact hK _ _ (hG.first (by decide) (by decide) (by first | rfl | simp | (simp; omega)))
            · intro dn us w6 A hev hy hG hdn hdep K hK
              have d9 : dn 9 = true := allD_mem hdep (by decide)
              have d13 : dn 13 = true := allD_mem hdep (by decide)
              have d16 : dn 16 = true := allD_mem hdep (by decide)
              have e0 : A.eval (.tmp 52) = .pointer (some ⟨g, m * 2, none⟩) := by rw [hev]; exact hG.pre 16 (by decide) (by decide) d16
              have e1 : A.eval (.tmp 50) = .agg #[.int .u64 x.1, .int .u64 x.2] := by rw [hev]; exact hG.pre 13 (by decide) (by decide) d13
              have h0 := hG.at_
              rw [hdn] at h0
              cases q0 : dn 15
              · rw [q0] at h0
                refine step_list (wpl_st rfl 48 (.tmp 52) (.tmp 50) rfl _ e0 _ e1 h0 (by kernel_rfl) rfl (congrArg List.toArray (put_lo hpl)) (Nat.ble_eq_true_of_le (by show _ + 2 ≤ _; simp; omega)) fun w7 A7 O7 => ⟨rfl, ?_⟩)
                exact hK _ _ (hG.laid17 d9 d13 hdn (by rw [q0]; exact A7) O7)
              · rw [q0] at h0
                refine step_list (wpl_st rfl 48 (.tmp 52) (.tmp 50) rfl _ e0 _ e1 h0 (by kernel_rfl) rfl (congrArg List.toArray (put_lo hpl)) (Nat.ble_eq_true_of_le (by show _ + 2 ≤ _; simp; omega)) fun w7 A7 O7 => ⟨rfl, ?_⟩)
                exact hK _ _ (hG.laid17 d9 d13 hdn (by rw [q0]; exact A7) O7)
            intro dn us wk hG hall
            have h15 : dn 15 = true := hall 15 (by decide)
            have h17 : dn 17 = true := hall 17 (by decide)
            have hAk := hG.at_
            rw [h15, h17] at hAk
            have hAk : At wk g 48 (pairsV (midL p x m (l.drop (i + 1))) ++ rest).toArray := by rw [HC1.out]; exact hAk
            have hOk := hOj.drew.trans hG.only
            simp only [fillA, fillT, Nat.reduceAdd, List.setIfInBounds_toArray, List.set_cons_zero, List.set_cons_succ]
            clear hG hall h15 h17 hAj hOj
            go_wp2_with fail
            go_roundg m
            case measure => omega
            case rel =>
              refine ⟨m, rfl, Nat.le_refl _, by omega, ?_, hAk, hOk⟩
              rw [HDQ.out]
              intro y hy
              rcases List.mem_cons.1 hy with rfl | hy
              · exact hxq
              · exact HG.out y hy
          · have hc : (decide (cmpI x.1 q.1 < 0)) = false := by
              unfold cmpI
              rw [if_neg hxq]
              split <;> rfl
            have HC := Lib.hid hc
            clear hc
            go_wp2_with fail
            refine wp_region_J (l := [_, _, _, _, _, _, _, _, _, _, _, _, _, _, _, _, _]) (QG (fun j v => match j with | 0 => v = .int .i64 ((m + 1 : Nat) : Int) | 1 => v = .int .i64 0 | 2 => v = .bool true | 3 => v = .bool true | 4 => v = .func (.func 61) #[] #[] | 5 => v = .slice (some ⟨g, 0, none⟩) l.length cap | 6 => v = .int .i64 ((m + 1 : Nat) : Int) | 7 => v = .pointer (some ⟨g, m * 2 + 2, none⟩) | 8 => v = .agg #[.int .u64 x.1, .int .u64 x.2] | 9 => v = .slice (some ⟨g, 0, none⟩) l.length cap | 10 => v = .int .i64 ((m + 1 : Nat) : Int) | 11 => v = .int .i64 (m : Int) | 12 => v = .pointer (some ⟨g, m * 2, none⟩) | 13 => v = .agg #[.int .u64 q.1, .int .u64 q.2] | 14 => v = .int .i64 (cmpI x.1 q.1) | 15 => v = .bool false | 16 => v = .bool false | _ => True) wr) (by kernel_rfl) (by kernel_rfl) (fun us => QG.start us) ⟨?_, ?_, ?_, ?_, ?_, ?_, ?_, ?_, ?_, ?_, ?_, ?_, ?_, ?_, ?_, ?_, ?_, trivial⟩ ?_
            · intro dn us w6 A hev hy hG hdn hdep K hK
              have e0 : A.eval (.tmp 9) = .int .i64 ((m + 1 : Nat) : Int) := by rw [hev]; rfl
              rw [if_pos (by rfl)]
              unfold Oper.wp execOp
              generalize A.eval = ev at e0 ⊢
              go_simp
              exact hK _ _ (hG.first (by first | rfl | simp | (simp; omega)))
            · intro dn us w6 A hev hy hG hdn hdep K hK
              have e0 : A.eval (.tmp 1) = .int .i64 0 := by rw [hev]; rfl
              rw [if_pos (by rfl)]
              unfold Oper.wp execOp
              generalize A.eval = ev at e0 ⊢
              go_simp
              exact hK _ _ (hG.first (by first | rfl | simp | (simp; omega)))
            · intro dn us w6 A hev hy hG hdn hdep K hK
              have d0 : dn 0 = true := allD_mem hdep (by decide)
              have d1 : dn 1 = true := allD_mem hdep (by decide)
              have e0 : A.eval (.tmp 18) = .int .i64 ((m + 1 : Nat) : Int) := by rw [hev]; exact hG.pre 0 d0
              have e1 : A.eval (.tmp 19) = .int .i64 0 := by rw [hev]; exact hG.pre 1 d1
              rw [if_pos (by rfl)]
              unfold Oper.wp execOp
              generalize A.eval = ev at e0 e1 ⊢
              go_simp
              exact hK _ _ (hG.first (by first | rfl | simp | (simp; omega)))
            · intro dn us w6 A hev hy hG hdn hdep K hK
              have d2 : dn 2 = true := allD_mem hdep (by decide)
              have e0 : A.eval (.tmp 20) = .bool true := by rw [hev]; exact hG.pre 2 d2
              rw [if_pos (by rfl)]
              unfold Oper.wp execOp
              generalize A.eval = ev at e0 ⊢
              go_simp
              exact hK _ _ (hG.first (by first | rfl | simp | (simp; omega)))
            · intro dn us w6 A hev hy hG hdn hdep K hK
              have d3 : dn 3 = true := allD_mem hdep (by decide)
              have e0 : A.eval (.tmp 3) = .func (.func 61) #[] #[] := by rw [hev]; rfl
              have hg : us 3 = .bool true := hG.pre 3 d3
              rw [if_pos (by rw [hy]; show ((match us 3 with | .bool b => some b | _ => none) == some true) = true; rw [hg]; rfl)]
              unfold Oper.wp execOp
              generalize A.eval = ev at e0 ⊢
              go_simp
              exact hK _ _ (hG.first (by first | rfl | simp | (simp; omega)))
            · intro dn us w6 A hev hy hG hdn hdep K hK
              have d3 : dn 3 = true := allD_mem hdep (by decide)
              have e0 : A.eval (.tmp 0) = .slice (some ⟨g, 0, none⟩) l.length cap := by rw [hev]; rfl
              have hg : us 3 = .bool true := hG.pre 3 d3
              rw [if_pos (by rw [hy]; show ((match us 3 with | .bool b => some b | _ => none) == some true) = true; rw [hg]; rfl)]
              unfold Oper.wp execOp
              generalize A.eval = ev at e0 ⊢
              go_simp
              exact hK _ _ (hG.first (by first | rfl | simp | (simp; omega)))
            · intro dn us w6 A hev hy hG hdn hdep K hK
              have d3 : dn 3 = true := allD_mem hdep (by decide)
              have e0 : A.eval (.tmp 9) = .int .i64 ((m + 1 : Nat) : Int) := by rw [hev]; rfl
              have hg : us 3 = .bool true := hG.pre 3 d3
              rw [if_pos (by rw [hy]; show ((match us 3 with | .bool b => some b | _ => none) == some true) = true; rw [hg]; rfl)]
              unfold Oper.wp execOp
              generalize A.eval = ev at e0 ⊢
              go_simp
              exact hK _ _ (hG.first (by first | rfl | simp | (simp; omega)))
            · intro dn us w6 A hev hy hG hdn hdep K hK
              have d3 : dn 3 = true := allD_mem hdep (by decide)
              have d5 : dn 5 = true := allD_mem hdep (by decide)
              have d6 : dn 6 = true := allD_mem hdep (by decide)
              have e0 : A.eval (.tmp 23) = .slice (some ⟨g, 0, none⟩) l.length cap := by rw [hev]; exact hG.pre 5 d5
              have e1 : A.eval (.tmp 24) = .int .i64 ((m + 1 : Nat) : Int) := by rw [hev]; exact hG.pre 6 d6
              have hg : us 3 = .bool true := hG.pre 3 d3
              rw [if_pos (by rw [hy]; show ((match us 3 with | .bool b => some b | _ => none) == some true) = true; rw [hg]; rfl)]
              unfold Oper.wp execOp
              generalize A.eval = ev at e0 e1 ⊢
              go_simp
              exact hK _ _ (hG.first (by first | rfl | simp | (simp; omega)))
            · intro dn us w6 A hev hy hG hdn hdep K hK
              have d3 : dn 3 = true := allD_mem hdep (by decide)
              have d7 : dn 7 = true := allD_mem hdep (by decide)
              have e0 : A.eval (.tmp 25) = .pointer (some ⟨g, m * 2 + 2, none⟩) := by rw [hev]; exact hG.pre 7 d7
              have hg : us 3 = .bool true := hG.pre 3 d3
              rw [if_pos (by rw [hy]; show ((match us 3 with | .bool b => some b | _ => none) == some true) = true; rw [hg]; rfl)]
              refine op_ld 48 (.tmp 25) rfl (#[.int .u64 x.1, .int .u64 x.2]) e0 _ (HA.out.below' hG.below) Try.underlying48 rfl (by kernel_rfl) (four_hi hpl) ?_
              exact hK _ _ (hG.first rfl)
            · intro dn us w6 A hev hy hG hdn hdep K hK
              have d3 : dn 3 = true := allD_mem hdep (by decide)
              have e0 : A.eval (.tmp 0) = .slice (some ⟨g, 0, none⟩) l.length cap := by rw [hev]; rfl
              have hg : us 3 = .bool true := hG.pre 3 d3
              rw [if_pos (by rw [hy]; show ((match us 3 with | .bool b => some b | _ => none) == some true) = true; rw [hg]; rfl)]
              unfold Oper.wp execOp
              generalize A.eval = ev at e0 ⊢
              go_simp
              exact hK _ _ (hG.first (by first | rfl | simp | (simp; omega)))
            · intro dn us w6 A hev hy hG hdn hdep K hK
              have d3 : dn 3 = true := allD_mem hdep (by decide)
              have e0 : A.eval (.tmp 9) = .int .i64 ((m + 1 : Nat) : Int) := by rw [hev]; rfl
              have hg : us 3 = .bool true := hG.pre 3 d3
              rw [if_pos (by rw [hy]; show ((match us 3 with | .bool b => some b | _ => none) == some true) = true; rw [hg]; rfl)]
              unfold Oper.wp execOp
              generalize A.eval = ev at e0 ⊢
              go_simp
              exact hK _ _ (hG.first (by first | rfl | simp | (simp; omega)))
            · intro dn us w6 A hev hy hG hdn hdep K hK
              have d3 : dn 3 = true := allD_mem hdep (by decide)
              have d10 : dn 10 = true := allD_mem hdep (by decide)
              have e0 : A.eval (.tmp 28) = .int .i64 ((m + 1 : Nat) : Int) := by rw [hev]; exact hG.pre 10 d10
              have e1 : A.eval (.const (.int .i64 1)) = .int .i64 1 := by rw [hev]; rfl
              have hg : us 3 = .bool true := hG.pre 3 d3
              rw [if_pos (by rw [hy]; show ((match us 3 with | .bool b => some b | _ => none) == some true) = true; rw [hg]; rfl)]
              unfold Oper.wp execOp
              generalize A.eval = ev at e0 e1 ⊢
              go_simp
              exact hK _ _ (hG.first (by first | rfl | simp | (simp; omega)))
            · intro dn us w6 A hev hy hG hdn hdep K hK
              have d3 : dn 3 = true := allD_mem hdep (by decide)
              have d9 : dn 9 = true := allD_mem hdep (by decide)
              have d11 : dn 11 = true := allD_mem hdep (by decide)
              have e0 : A.eval (.tmp 27) = .slice (some ⟨g, 0, none⟩) l.length cap := by rw [hev]; exact hG.pre 9 d9
              have e1 : A.eval (.tmp 29) = .int .i64 (m : Int) := by rw [hev]; exact hG.pre 11 d11
              have hg : us 3 = .bool true := hG.pre 3 d3
              rw [if_pos (by rw [hy]; show ((match us 3 with | .bool b => some b | _ => none) == some true) = true; rw [hg]; rfl)]
              unfold Oper.wp execOp
              generalize A.eval = ev at e0 e1 ⊢
              go_simp
              exact hK _ _ (hG.first (by first | rfl | simp | (simp; omega)))
            · intro dn us w6 A hev hy hG hdn hdep K hK
              have d3 : dn 3 = true := allD_mem hdep (by decide)
              have d12 : dn 12 = true := allD_mem hdep (by decide)
              have e0 : A.eval (.tmp 30) = .pointer (some ⟨g, m * 2, none⟩) := by rw [hev]; exact hG.pre 12 d12
              have hg : us 3 = .bool true := hG.pre 3 d3
              rw [if_pos (by rw [hy]; show ((match us 3 with | .bool b => some b | _ => none) == some true) = true; rw [hg]; rfl)]
              refine op_ld 48 (.tmp 30) rfl (#[.int .u64 q.1, .int .u64 q.2]) e0 _ (HA.out.below' hG.below) Try.underlying48 rfl (by kernel_rfl) (four_lo hpl) ?_
              exact hK _ _ (hG.first rfl)
            · intro dn us w6 A hev hy hG hdn hdep K hK
              have d3 : dn 3 = true := allD_mem hdep (by decide)
              have d4 : dn 4 = true := allD_mem hdep (by decide)
              have d8 : dn 8 = true := allD_mem hdep (by decide)
              have d13 : dn 13 = true := allD_mem hdep (by decide)
              have e0 : A.eval (.tmp 22) = .func (.func 61) #[] #[] := by rw [hev]; exact hG.pre 4 d4
              have e1 : A.eval (.tmp 26) = .agg #[.int .u64 x.1, .int .u64 x.2] := by rw [hev]; exact hG.pre 8 d8
              have e2 : A.eval (.tmp 31) = .agg #[.int .u64 q.1, .int .u64 q.2] := by rw [hev]; exact hG.pre 13 d13
              have hg : us 3 = .bool true := hG.pre 3 d3
              rw [if_pos (by rw [hy]; show ((match us 3 with | .bool b => some b | _ => none) == some true) = true; rw [hg]; rfl)]
              unfold Oper.wp execOp
              generalize A.eval = ev at e0 e1 e2 ⊢
              go_simp
              refine (cmp1_any x q _).mono ?_
              rintro e wq ⟨rfl, hb⟩
              exact hK _ _ (hG.called rfl hb)
            · intro dn us w6 A hev hy hG hdn hdep K hK
              have d3 : dn 3 = true := allD_mem hdep (by decide)
              have d14 : dn 14 = true := allD_mem hdep (by decide)
              have e0 : A.eval (.tmp 32) = .int .i64 (cmpI x.1 q.1) := by rw [hev]; exact hG.pre 14 d14
              have e1 : A.eval (.const (.int .i64 0)) = .int .i64 0 := by rw [hev]; rfl
              have hc := HC.out
              have hg : us 3 = .bool true := hG.pre 3 d3
              rw [if_pos (by rw [hy]; show ((match us 3 with | .bool b => some b | _ => none) == some true) = true; rw [hg]; rfl)]
              unfold Oper.wp execOp
              generalize A.eval = ev at e0 e1 ⊢
              go_simp
              exact hK _ _ (hG.first (by first | rfl | simp | (simp; omega)))
            · intro dn us w6 A hev hy hG hdn hdep K hK
              have d3 : dn 3 = true := allD_mem hdep (by decide)
              have d15 : dn 15 = true := allD_mem hdep (by decide)
              have e0 : A.eval (.tmp 21) = .bool true := by rw [hev]; exact hG.pre 3 d3
              have e1 : A.eval (.tmp 33) = .bool false := by rw [hev]; exact hG.pre 15 d15
              have e2 : A.eval (.const (.bool false)) = .bool false := by rw [hev]; rfl
              rw [if_pos (by rfl)]
              unfold Oper.wp execOp
              generalize A.eval = ev at e0 e1 e2 ⊢
              go_simp
              exact hK _ _ (hG.first (by first | rfl | simp | (simp; omega)))
            intro dn us w7 hG hall
            have u16 : us 16 = .bool false := hG.pre 16 (hall 16 (by decide))
            have hb7 := hG.below
            simp only [fillA, fillT, Nat.reduceAdd, List.setIfInBounds_toArray, List.set_cons_zero, List.set_cons_succ, u16]
            clear hG hall u16
            have e := insPair_at HPS.out (by have := HPL.out; omega) HG.out (.inr ⟨q, HQ.out, by omega⟩)
            have hA7 : At w7 g 48 (pairsV (insPair p x ++ l.drop (i + 1)) ++ rest).toArray := by
              rw [e]
              have e2 : p.take (m + 1) ++ x :: p.drop (m + 1) ++ l.drop (i + 1) = midL p x (m + 1) (l.drop (i + 1)) := by unfold midL; simp
              rw [e2, HM.out]; exact hAi.below' hb7
            have hO7 := hOi.thenBelow hb7
            clear hAi hOi e
            go_wp2_with fail
            go_roundg (l.length - i)
            case measure => omega
            case rel => exact ⟨i + 1, rfl, by omega, by omega, .inr (by omega), by rw [HT.out]; exact hA7, hO7⟩
    · have e : isort l = isort (l.take i) ++ l.drop i := by
        rcases hil with rfl | h
        · simp [isort]
        · have : i = l.length := by omega
          subst this; simp
      have hAe : At wr g 48 (pairsV (isort l) ++ rest).toArray := by rw [e]; exact hA
      clear e hA
      go_wp2_with fail
      go_end0
      exact ⟨rfl, hAe, hO⟩

set_option maxRecDepth 100000 in
set_option maxHeartbeats 4000000 in
/-- The whole: where there are few. -/
theorem stable_any (l : List (Int × Int)) (g cap : Nat) (rest : List Value) (w : World) (hA : At w g 48 (pairsV l ++ rest).toArray) (hl : l.length ≤ 19) :
    Calls Try.prog 60 #[.slice (some ⟨g, 0, none⟩) l.length cap, .func (.func 61) #[] #[]] w fun e w' => e = .returned (.tuple #[]) ∧ At w' g 48 (pairsV (isort l) ++ rest).toArray ∧ Only (fun j => j = g) w w' := by
  have hst : Calls Try.prog 106 #[.slice (some ⟨g, 0, none⟩) l.length cap, .int .i64 l.length, .func (.func 61) #[] #[]] w fun e w' => e = .returned (.tuple #[]) ∧ At w' g 48 (pairsV (isort l) ++ rest).toArray ∧ Only (fun j => j = g) w w' := by
    go_enter Try.func106, Try.ntmps106
    go_wp2_with fail
    refine wp_loop_rounds 1 ?_
    rw [rounds_succ]
    go_wp2_with (go_at_call 124; refine (insertion_any l g cap rest _ hA (by omega)).mono ?_; rintro e w1 ⟨rfl, hA1, hO1⟩)
    refine wp_loop_rounds 1 ?_
    rw [rounds_succ]
    go_wp2_with fail

    go_end0
    exact ⟨rfl, hA1, hO1⟩
  go_enter Try.func60, Try.ntmps60
  go_wp2_with (go_at_call 106; refine hst.mono ?_; rintro e w1 ⟨rfl, hA1, hO1⟩)
  go_end0
  exact ⟨rfl, hA1, hO1⟩
end Go.Proofs.Ytccmjljlfgbicaa

