/- slices.SortStableFunc of few pairs, by look.Pairs$1: they are sorted. Printed by sortgen.py. -/
import Derived.Test.YtccmjljlfgbicaaGreatZV
import Derived.Test.YtccmjljlfgbicaaGreatRegQ
import Derived.Test.YtccmjljlfgbicaaGreatOutG
import Derived.Deep.LoopGhost
import Derived.Deep.Cut
import Derived.Test.YtccmjljlfgbicaaGreatBook
import Derived.MapFrom
import Derived.Test.YtccmjljlfgbicaaGreatSeq
namespace Go.Proofs.YtccmjljlfgbicaaGreat
open Go.ChangeShapes Go.WideShapes Go.ChangeAt Go.RowKit

def cmpI (a b : Int) : Int := if a < b then -1 else if b < a then 1 else 0
set_option maxRecDepth 100000 in
set_option maxHeartbeats 1000000 in
theorem isnan_any (a : Int) (w : World) :
    Calls Tryz.prog 178 #[.int .u64 a] w fun e w' => e = .returned (.bool false) ∧ w = w' := by
  go_enter Tryz.func178, Tryz.ntmps178
  go_wp2
  go_ret
  exact ⟨rfl, rfl⟩
set_option maxRecDepth 100000 in
set_option maxHeartbeats 1000000 in
theorem compare_any (a b : Int) (w : World) :
    Calls Tryz.prog 116 #[.int .u64 a, .int .u64 b] w fun e w' => e = .returned (.int .i64 (cmpI a b)) ∧ w = w' := by
  rcases Int.lt_trichotomy a b with h | h | h
  · have hc : cmpI a b = -1 := if_pos h
    rw [hc]
    go_enter Tryz.func116, Tryz.ntmps116
    go_wp2_with (go_at_call 178; refine (isnan_any _ _).mono ?_; rintro e w1 ⟨rfl, rfl⟩)
    go_ret
    exact ⟨rfl, rfl⟩
  · subst h
    have hc : cmpI a a = 0 := by unfold cmpI; rw [if_neg (by omega), if_neg (by omega)]
    rw [hc]
    go_enter Tryz.func116, Tryz.ntmps116
    go_wp2_with (go_at_call 178; refine (isnan_any _ _).mono ?_; rintro e w1 ⟨rfl, rfl⟩)
    go_ret
    exact ⟨rfl, rfl⟩
  · have hc : cmpI a b = 1 := by unfold cmpI; rw [if_neg (by omega), if_pos h]
    have h' : ¬ a < b := by omega
    rw [hc]
    go_enter Tryz.func116, Tryz.ntmps116
    go_wp2_with (go_at_call 178; refine (isnan_any _ _).mono ?_; rintro e w1 ⟨rfl, rfl⟩)
    go_ret
    exact ⟨rfl, rfl⟩
set_option maxRecDepth 100000 in
set_option maxHeartbeats 1000000 in
theorem cmp1_any (x q : Int × Int) (w : World) :
    Calls Tryz.prog 115 #[.agg #[.int .u64 x.1, .int .u64 x.2], .agg #[.int .u64 q.1, .int .u64 q.2]] w fun e w' => e = .returned (.int .i64 (cmpI x.1 q.1)) ∧ Below w.heap.size w w' := by
  go_enter Tryz.func115, Tryz.ntmps115
  go_wp2_with (go_at_call 116; refine (compare_any _ _ _).mono ?_; rintro e w1 ⟨rfl, rfl⟩)
  go_ret
  exact ⟨rfl, below_twice w _ _⟩

/-- What is kept while two pairs change places. -/
structure SwG (g : Nat) (T : TypeId) (c00 c10 c01 c11 : Array Value) (F : Nat → Value → Prop) (W : World) (dn : Nat → Bool) (us : Nat → Value) (w : World) : Prop where
  only : Only (fun j => j = g) W w
  all : dn 15 = true ∨ dn 17 = true → dn 9 = true ∧ dn 13 = true
  pre : ∀ j, j ≠ 15 → j ≠ 17 → dn j = true → F j (us j)
  at_ : At w g T (match dn 15, dn 17 with | false, false => c00 | true, false => c10 | false, true => c01 | true, true => c11)
section
variable {g : Nat} {T : TypeId} {c00 c10 c01 c11 : Array Value} {F : Nat → Value → Prop} {W w w' : World} {dn : Nat → Bool} {us : Nat → Value}
theorem SwG.start (us : Nat → Value) (h : At W g T c00) : SwG g T c00 c10 c01 c11 F W (fun _ => false) us W :=
  ⟨Only.refl _ _, fun e => (by rcases e with e | e <;> cases e), fun _ _ _ e => (by cases e), h⟩
theorem SwG.first (h : SwG g T c00 c10 c01 c11 F W dn us w) {i : Nat} {v : Value} (h1 : i ≠ 15) (h2 : i ≠ 17) (hv : F i v) : SwG g T c00 c10 c01 c11 F W (updB dn i) (updN us i v) w := by
  refine ⟨h.only, fun e => ?_, fun j a b e => ?_, ?_⟩
  · rw [updB_ne (Ne.symm h1), updB_ne (Ne.symm h2)] at e
    obtain ⟨a, b⟩ := h.all e
    refine ⟨?_, ?_⟩
    · by_cases q : 9 = i
      · subst q; exact updB_eq
      · rw [updB_ne q]; exact a
    · by_cases q : 13 = i
      · subst q; exact updB_eq
      · rw [updB_ne q]; exact b
  · by_cases q : j = i
    · subst q; rw [updN_eq]; exact hv
    · rw [updB_ne q] at e; rw [updN_ne q]; exact h.pre j a b e
  · rw [updB_ne (Ne.symm h1), updB_ne (Ne.symm h2)]; exact h.at_
theorem SwG.old {n : Nat} (h : SwG g T c00 c10 c01 c11 F W dn us w) (hn : n = 9 ∨ n = 13) (hd : dn n = false) : At w g T c00 := by
  have k : ¬ (dn 15 = true ∨ dn 17 = true) := fun e => by
    obtain ⟨a, b⟩ := h.all e
    rcases hn with rfl | rfl
    · rw [hd] at a; cases a
    · rw [hd] at b; cases b
  have a := h.at_
  cases q1 : dn 15 with
  | true => exact (k (.inl q1)).elim
  | false =>
    cases q2 : dn 17 with
    | true => exact (k (.inr q2)).elim
    | false => rw [q1, q2] at a; exact a
theorem SwG.old9 (h : SwG g T c00 c10 c01 c11 F W dn us w) (hd : dn 9 = false) : At w g T c00 := h.old (.inl rfl) hd
theorem SwG.old13 (h : SwG g T c00 c10 c01 c11 F W dn us w) (hd : dn 13 = false) : At w g T c00 := h.old (.inr rfl) hd
theorem SwG.laid15 (h : SwG g T c00 c10 c01 c11 F W dn us w) (d9 : dn 9 = true) (d13 : dn 13 = true) (_hd : dn 15 = false) {v : Value} (hA : At w' g T (match dn 17 with | false => c10 | true => c11)) (hO : Only (fun j => j = g) w w') : SwG g T c00 c10 c01 c11 F W (updB dn 15) (updN us 15 v) w' := by
  refine ⟨h.only.trans hO, fun _ => ⟨by rw [updB_ne (by decide)]; exact d9, by rw [updB_ne (by decide)]; exact d13⟩, fun j a b e => ?_, ?_⟩
  · rw [updB_ne a] at e; rw [updN_ne a]; exact h.pre j a b e
  · rw [updB_eq, updB_ne (by decide)]
    cases q : dn 17 <;> rw [q] at hA <;> exact hA
theorem SwG.laid17 (h : SwG g T c00 c10 c01 c11 F W dn us w) (d9 : dn 9 = true) (d13 : dn 13 = true) (_hd : dn 17 = false) {v : Value} (hA : At w' g T (match dn 15 with | false => c01 | true => c11)) (hO : Only (fun j => j = g) w w') : SwG g T c00 c10 c01 c11 F W (updB dn 17) (updN us 17 v) w' := by
  refine ⟨h.only.trans hO, fun _ => ⟨by rw [updB_ne (by decide)]; exact d9, by rw [updB_ne (by decide)]; exact d13⟩, fun j a b e => ?_, ?_⟩
  · rw [updB_ne b] at e; rw [updN_ne b]; exact h.pre j a b e
  · rw [updB_eq, updB_ne (by decide)]
    cases q : dn 15 <;> rw [q] at hA <;> exact hA
end

/-- A list with one element on its way into its place. -/
def midL (p : List (Int × Int)) (x : Int × Int) (j : Nat) (r : List (Int × Int)) : List (Int × Int) := p.take j ++ x :: (p.drop j ++ r)
theorem midL_at {p r : List (Int × Int)} {x : Int × Int} {j : Nat} {q : Int × Int} (hq : p[j]? = some q) : midL p x (j + 1) r = p.take j ++ [q, x] ++ (p.drop (j + 1) ++ r) ∧ midL p x j r = p.take j ++ [x, q] ++ (p.drop (j + 1) ++ r) := by
  obtain ⟨h1, h2⟩ := List.getElem?_eq_some_iff.1 hq
  unfold midL
  refine ⟨?_, ?_⟩
  · rw [List.take_add_one, hq]; simp
  · rw [List.drop_eq_getElem_cons h1, h2]; simp

set_option maxRecDepth 100000 in
set_option maxHeartbeats 4000000 in
theorem insertion_any (l : List (Int × Int)) (g cap : Nat) (rest : List Value) (w : World) (hA : At w g 103 (pairsV l ++ rest).toArray) (hl : l.length ≤ 1000) :
    Calls Tryz.prog 197 #[.slice (some ⟨g, 0, none⟩) l.length cap, .int .i64 0, .int .i64 l.length, .func (.func 115) #[] #[]] w fun e w' => e = .returned (.tuple #[]) ∧ At w' g 103 (pairsV (isort l) ++ rest).toArray ∧ Only (fun j => j = g) w w' := by
  have HA0 := Lib.hid hA
  clear hA
  go_enter Tryz.func197, Tryz.ntmps197
  go_wp2_with fail
  go_loopg [8] l.length (fun gg v8 wr => ∃ i : Nat, v8 = .int .i64 i ∧ i + gg = l.length + 1 ∧ 1 ≤ i ∧ (l = [] ∨ i ≤ l.length) ∧ At wr g 103 (pairsV (isort (l.take i) ++ l.drop i) ++ rest).toArray ∧ Only (fun j => j = g) w wr)
  case atStart =>
    refine ⟨1, rfl, by omega, by omega, ?_, ?_, Only.refl _ _⟩
    · cases l with
      | nil => exact .inl rfl
      | cons a l => exact .inr (by simp)
    · cases l with
      | nil => exact HA0.out
      | cons a l => exact HA0.out
  case round =>
    obtain ⟨i, rfl, hi, hi1, hil, hA, hO⟩ := hrel
    by_cases hlt : i < l.length
    · obtain ⟨x, hx⟩ : ∃ x, l[i]? = some x := ⟨_, List.getElem?_eq_getElem hlt⟩
      obtain ⟨hpl, hps⟩ := isort_run l i (by omega)
      have hdr : l.drop i = x :: l.drop (i + 1) := by
        obtain ⟨h1, h2⟩ := List.getElem?_eq_some_iff.1 hx
        rw [List.drop_eq_getElem_cons h1, h2]
      have htk : isort (l.take (i + 1)) = insPair (isort (l.take i)) x := by
        have e : l.take (i + 1) = l.take i ++ [x] := by rw [List.take_add_one, hx]; rfl
        rw [e, isort_snoc]
      have hA' : At wr g 103 (pairsV (midL (isort (l.take i)) x i (l.drop (i + 1))) ++ rest).toArray := by
        have e : midL (isort (l.take i)) x i (l.drop (i + 1)) = isort (l.take i) ++ l.drop i := by
          unfold midL
          rw [List.take_of_length_le (by omega), List.drop_eq_nil_of_le (by omega), hdr]; simp
        rw [e]; exact hA
      have HT := Lib.hid htk
      have HPS := Lib.hid hps
      have HPL := Lib.hid hpl
      generalize isort (l.take i) = p at *
      clear hdr hx hps hpl htk hA
      go_wp2_with fail
      go_loopg [9] i (fun gg v9 wr => ∃ j : Nat, v9 = .int .i64 j ∧ j ≤ gg ∧ j ≤ i ∧ (∀ y ∈ p.drop j, x.1 < y.1) ∧ At wr g 103 (pairsV (midL p x j (l.drop (i + 1))) ++ rest).toArray ∧ Only (fun j => j = g) w wr)
      case atStart => exact ⟨i, rfl, Nat.le_refl _, Nat.le_refl _, by rw [List.drop_eq_nil_of_le (by have := HPL.out; omega)]; simp, hA', hO⟩
      case round =>
        obtain ⟨j, rfl, hj, hji, hgt, hAi, hOi⟩ := hrel
        have HG := Lib.hid hgt
        clear hgt hA' hO
        cases j with
        | zero =>
          go_wp2_with fail
          refine wp_region_J (l := [_, _, _, _, _, _, _, _, _, _, _, _, _, _, _, _, _]) (QG (fun j v => match j with | 0 => v = .int .i64 ((0 : Nat) : Int) | 1 => v = .int .i64 0 | 2 => v = .bool false | 3 => v = .bool false | 16 => v = .bool false | _ => True) wr) (by kernel_rfl) (by kernel_rfl) (fun us => QG.start us) ⟨?_, ?_, ?_, ?_, ?_, ?_, ?_, ?_, ?_, ?_, ?_, ?_, ?_, ?_, ?_, ?_, ?_, trivial⟩ ?_
          · intro dn us w6 A hev hy hG hdn hdep K hK
            have e0 : A.eval (.tmp 9) = .int .i64 ((0 : Nat) : Int) := by rw [hev]; rfl
            rw [if_pos (by rfl)]
            unfold Oper.wp execOp
            generalize A.eval = ev at e0 ⊢
            go_simp
            exact hK _ _ (hG.first (by first | rfl | simp | (simp; omega)))
          · intro dn us w6 A hev hy hG hdn hdep K hK
            have e0 : A.eval (.tmp 1) = .int .i64 0 := by rw [hev]; rfl
            rw [if_pos (by rfl)]
            unfold Oper.wp execOp
            generalize A.eval = ev at e0 ⊢
            go_simp
            exact hK _ _ (hG.first (by first | rfl | simp | (simp; omega)))
          · intro dn us w6 A hev hy hG hdn hdep K hK
            have d0 : dn 0 = true := allD_mem hdep (by decide)
            have d1 : dn 1 = true := allD_mem hdep (by decide)
            have e0 : A.eval (.tmp 18) = .int .i64 ((0 : Nat) : Int) := by rw [hev]; exact hG.pre 0 d0
            have e1 : A.eval (.tmp 19) = .int .i64 0 := by rw [hev]; exact hG.pre 1 d1
            rw [if_pos (by rfl)]
            unfold Oper.wp execOp
            generalize A.eval = ev at e0 e1 ⊢
            go_simp
            exact hK _ _ (hG.first (by first | rfl | simp | (simp; omega)))
          · intro dn us w6 A hev hy hG hdn hdep K hK
            have d2 : dn 2 = true := allD_mem hdep (by decide)
            have e0 : A.eval (.tmp 20) = .bool false := by rw [hev]; exact hG.pre 2 d2
            rw [if_pos (by rfl)]
            unfold Oper.wp execOp
            generalize A.eval = ev at e0 ⊢
            go_simp
            exact hK _ _ (hG.first (by first | rfl | simp | (simp; omega)))
          · intro dn us w6 A hev hy hG hdn hdep K hK
            have d3 : dn 3 = true := allD_mem hdep (by decide)
            have hg : us 3 = .bool false := hG.pre 3 d3
            rw [if_neg (by rw [hy]; show ¬ ((match us 3 with | .bool b => some b | _ => none) == some true) = true; rw [hg]; decide)]
            exact hK _ _ (hG.first trivial)
          · intro dn us w6 A hev hy hG hdn hdep K hK
            have d3 : dn 3 = true := allD_mem hdep (by decide)
            have hg : us 3 = .bool false := hG.pre 3 d3
            rw [if_neg (by rw [hy]; show ¬ ((match us 3 with | .bool b => some b | _ => none) == some true) = true; rw [hg]; decide)]
            exact hK _ _ (hG.first trivial)
          · intro dn us w6 A hev hy hG hdn hdep K hK
            have d3 : dn 3 = true := allD_mem hdep (by decide)
            have hg : us 3 = .bool false := hG.pre 3 d3
            rw [if_neg (by rw [hy]; show ¬ ((match us 3 with | .bool b => some b | _ => none) == some true) = true; rw [hg]; decide)]
            exact hK _ _ (hG.first trivial)
          · intro dn us w6 A hev hy hG hdn hdep K hK
            have d3 : dn 3 = true := allD_mem hdep (by decide)
            have hg : us 3 = .bool false := hG.pre 3 d3
            rw [if_neg (by rw [hy]; show ¬ ((match us 3 with | .bool b => some b | _ => none) == some true) = true; rw [hg]; decide)]
            exact hK _ _ (hG.first trivial)
          · intro dn us w6 A hev hy hG hdn hdep K hK
            have d3 : dn 3 = true := allD_mem hdep (by decide)
            have hg : us 3 = .bool false := hG.pre 3 d3
            rw [if_neg (by rw [hy]; show ¬ ((match us 3 with | .bool b => some b | _ => none) == some true) = true; rw [hg]; decide)]
            exact hK _ _ (hG.first trivial)
          · intro dn us w6 A hev hy hG hdn hdep K hK
            have d3 : dn 3 = true := allD_mem hdep (by decide)
            have hg : us 3 = .bool false := hG.pre 3 d3
            rw [if_neg (by rw [hy]; show ¬ ((match us 3 with | .bool b => some b | _ => none) == some true) = true; rw [hg]; decide)]
            exact hK _ _ (hG.first trivial)
          · intro dn us w6 A hev hy hG hdn hdep K hK
            have d3 : dn 3 = true := allD_mem hdep (by decide)
            have hg : us 3 = .bool false := hG.pre 3 d3
            rw [if_neg (by rw [hy]; show ¬ ((match us 3 with | .bool b => some b | _ => none) == some true) = true; rw [hg]; decide)]
            exact hK _ _ (hG.first trivial)
          · intro dn us w6 A hev hy hG hdn hdep K hK
            have d3 : dn 3 = true := allD_mem hdep (by decide)
            have e0 : A.eval (.const (.int .i64 1)) = .int .i64 1 := by rw [hev]; rfl
            have hg : us 3 = .bool false := hG.pre 3 d3
            rw [if_neg (by rw [hy]; show ¬ ((match us 3 with | .bool b => some b | _ => none) == some true) = true; rw [hg]; decide)]
            exact hK _ _ (hG.first trivial)
          · intro dn us w6 A hev hy hG hdn hdep K hK
            have d3 : dn 3 = true := allD_mem hdep (by decide)
            have hg : us 3 = .bool false := hG.pre 3 d3
            rw [if_neg (by rw [hy]; show ¬ ((match us 3 with | .bool b => some b | _ => none) == some true) = true; rw [hg]; decide)]
            exact hK _ _ (hG.first trivial)
          · intro dn us w6 A hev hy hG hdn hdep K hK
            have d3 : dn 3 = true := allD_mem hdep (by decide)
            have hg : us 3 = .bool false := hG.pre 3 d3
            rw [if_neg (by rw [hy]; show ¬ ((match us 3 with | .bool b => some b | _ => none) == some true) = true; rw [hg]; decide)]
            exact hK _ _ (hG.first trivial)
          · intro dn us w6 A hev hy hG hdn hdep K hK
            have d3 : dn 3 = true := allD_mem hdep (by decide)
            have hg : us 3 = .bool false := hG.pre 3 d3
            rw [if_neg (by rw [hy]; show ¬ ((match us 3 with | .bool b => some b | _ => none) == some true) = true; rw [hg]; decide)]
            exact hK _ _ (hG.first trivial)
          · intro dn us w6 A hev hy hG hdn hdep K hK
            have d3 : dn 3 = true := allD_mem hdep (by decide)
            have e0 : A.eval (.const (.int .i64 0)) = .int .i64 0 := by rw [hev]; rfl
            have hg : us 3 = .bool false := hG.pre 3 d3
            rw [if_neg (by rw [hy]; show ¬ ((match us 3 with | .bool b => some b | _ => none) == some true) = true; rw [hg]; decide)]
            exact hK _ _ (hG.first trivial)
          · intro dn us w6 A hev hy hG hdn hdep K hK
            have d3 : dn 3 = true := allD_mem hdep (by decide)
            have e0 : A.eval (.tmp 21) = .bool false := by rw [hev]; exact hG.pre 3 d3
            have e1 : A.eval (.const (.bool false)) = .bool false := by rw [hev]; rfl
            rw [if_pos (by rfl)]
            unfold Oper.wp execOp
            generalize A.eval = ev at e0 e1 ⊢
            go_simp
            exact hK _ _ (hG.first (by first | rfl | simp | (simp; omega)))
          intro dn us w7 hG hall
          have u16 : us 16 = .bool false := hG.pre 16 (hall 16 (by decide))
          have hb7 := hG.below
          simp only [fillA, fillT, Nat.reduceAdd, List.setIfInBounds_toArray, List.set_cons_zero, List.set_cons_succ, u16]
          clear hG hall u16
          have e := insPair_at HPS.out (Nat.zero_le _) HG.out (.inl rfl)
          have hA7 : At w7 g 103 (pairsV (insPair p x ++ l.drop (i + 1)) ++ rest).toArray := by
            rw [e]
            have e2 : p.take 0 ++ x :: p.drop 0 ++ l.drop (i + 1) = midL p x 0 (l.drop (i + 1)) := by unfold midL; simp
            rw [e2]; exact hAi.below' hb7
          have hO7 := hOi.thenBelow hb7
          clear hAi hOi e
          go_wp2_with fail
          go_roundg (l.length - i)
          case measure => omega
          case rel => exact ⟨i + 1, rfl, by omega, by omega, .inr (by omega), by rw [HT.out]; exact hA7, hO7⟩
        | succ m =>
          obtain ⟨q, hq⟩ : ∃ q, p[m]? = some q := ⟨_, List.getElem?_eq_getElem (by have := HPL.out; omega)⟩
          obtain ⟨hm1, hm2⟩ := midL_at (x := x) (r := l.drop (i + 1)) hq
          have hc0 : pairsV (midL p x (m + 1) (l.drop (i + 1))) ++ rest = pairsV (p.take m) ++ [.int .u64 q.1, .int .u64 q.2, .int .u64 x.1, .int .u64 x.2] ++ (pairsV (p.drop (m + 1) ++ l.drop (i + 1)) ++ rest) := by
            rw [hm1, pairsV_append, pairsV_append, show pairsV [q, x] = [.int .u64 q.1, .int .u64 q.2, .int .u64 x.1, .int .u64 x.2] from rfl]; simp only [List.append_assoc]
          have hc1 : pairsV (midL p x m (l.drop (i + 1))) ++ rest = pairsV (p.take m) ++ [.int .u64 x.1, .int .u64 x.2, .int .u64 q.1, .int .u64 q.2] ++ (pairsV (p.drop (m + 1) ++ l.drop (i + 1)) ++ rest) := by
            rw [hm2, pairsV_append, pairsV_append, show pairsV [x, q] = [.int .u64 x.1, .int .u64 x.2, .int .u64 q.1, .int .u64 q.2] from rfl]; simp only [List.append_assoc]
          have hpl : (pairsV (p.take m)).length = m * 2 := by rw [pairsV_len, List.length_take]; have := HPL.out; omega
          have hdq : p.drop m = q :: p.drop (m + 1) := by
            obtain ⟨h1, h2⟩ := List.getElem?_eq_some_iff.1 hq
            rw [List.drop_eq_getElem_cons h1, h2]
          rw [hc0] at hAi
          have HC1 := Lib.hid hc1
          have HDQ := Lib.hid hdq
          have HQ := Lib.hid hq
          have HM := Lib.hid hc0
          clear hm1 hm2 hc0 hc1 hdq hq
          generalize pairsV (p.take m) = pre at *
          generalize pairsV (p.drop (m + 1) ++ l.drop (i + 1)) ++ rest = tl at *
          have HA := Lib.hid hAi
          have ej : IntKind.i64.wrap (((m + 1 : Nat) : Int) - 1) = (m : Int) := by rw [IntWalk.i64_in _ (by omega)]; omega
          have hb0 : (0 : Int) ≤ (m : Int) + 1 := by omega
          have hb1 : (m : Int) + 1 < (l.length : Int) := by omega
          have hb2 : m < l.length := by omega
          have ej2 : IntKind.i64.wrap (m : Int) = (m : Int) := IntWalk.i64_in _ (by omega)
          by_cases hxq : x.1 < q.1
          · have hc : cmpI x.1 q.1 = -1 := if_pos hxq
            have HC := Lib.hid hc
            clear hc
            go_wp2_with fail
            refine wp_region_J (l := [_, _, _, _, _, _, _, _, _, _, _, _, _, _, _, _, _]) (QG (fun j v => match j with | 0 => v = .int .i64 ((m + 1 : Nat) : Int) | 1 => v = .int .i64 0 | 2 => v = .bool true | 3 => v = .bool true | 4 => v = .func (.func 115) #[] #[] | 5 => v = .slice (some ⟨g, 0, none⟩) l.length cap | 6 => v = .int .i64 ((m + 1 : Nat) : Int) | 7 => v = .pointer (some ⟨g, m * 2 + 2, none⟩) | 8 => v = .agg #[.int .u64 x.1, .int .u64 x.2] | 9 => v = .slice (some ⟨g, 0, none⟩) l.length cap | 10 => v = .int .i64 ((m + 1 : Nat) : Int) | 11 => v = .int .i64 (m : Int) | 12 => v = .pointer (some ⟨g, m * 2, none⟩) | 13 => v = .agg #[.int .u64 q.1, .int .u64 q.2] | 14 => v = .int .i64 (-1) | 15 => v = .bool true | 16 => v = .bool true | _ => True) wr) (by kernel_rfl) (by kernel_rfl) (fun us => QG.start us) ⟨?_, ?_, ?_, ?_, ?_, ?_, ?_, ?_, ?_, ?_, ?_, ?_, ?_, ?_, ?_, ?_, ?_, trivial⟩ ?_
            · intro dn us w6 A hev hy hG hdn hdep K hK
              have e0 : A.eval (.tmp 9) = .int .i64 ((m + 1 : Nat) : Int) := by rw [hev]; rfl
              rw [if_pos (by rfl)]
              unfold Oper.wp execOp
              generalize A.eval = ev at e0 ⊢
              go_simp
              exact hK _ _ (hG.first (by first | rfl | simp | (simp; omega)))
            · intro dn us w6 A hev hy hG hdn hdep K hK
              have e0 : A.eval (.tmp 1) = .int .i64 0 := by rw [hev]; rfl
              rw [if_pos (by rfl)]
              unfold Oper.wp execOp
              generalize A.eval = ev at e0 ⊢
              go_simp
              exact hK _ _ (hG.first (by first | rfl | simp | (simp; omega)))
            · intro dn us w6 A hev hy hG hdn hdep K hK
              have d0 : dn 0 = true := allD_mem hdep (by decide)
              have d1 : dn 1 = true := allD_mem hdep (by decide)
              have e0 : A.eval (.tmp 18) = .int .i64 ((m + 1 : Nat) : Int) := by rw [hev]; exact hG.pre 0 d0
              have e1 : A.eval (.tmp 19) = .int .i64 0 := by rw [hev]; exact hG.pre 1 d1
              rw [if_pos (by rfl)]
              unfold Oper.wp execOp
              generalize A.eval = ev at e0 e1 ⊢
              go_simp
              exact hK _ _ (hG.first (by first | rfl | simp | (simp; omega)))
            · intro dn us w6 A hev hy hG hdn hdep K hK
              have d2 : dn 2 = true := allD_mem hdep (by decide)
              have e0 : A.eval (.tmp 20) = .bool true := by rw [hev]; exact hG.pre 2 d2
              rw [if_pos (by rfl)]
              unfold Oper.wp execOp
              generalize A.eval = ev at e0 ⊢
              go_simp
              exact hK _ _ (hG.first (by first | rfl | simp | (simp; omega)))
            · intro dn us w6 A hev hy hG hdn hdep K hK
              have d3 : dn 3 = true := allD_mem hdep (by decide)
              have e0 : A.eval (.tmp 3) = .func (.func 115) #[] #[] := by rw [hev]; rfl
              have hg : us 3 = .bool true := hG.pre 3 d3
              rw [if_pos (by rw [hy]; show ((match us 3 with | .bool b => some b | _ => none) == some true) = true; rw [hg]; rfl)]
              unfold Oper.wp execOp
              generalize A.eval = ev at e0 ⊢
              go_simp
              exact hK _ _ (hG.first (by first | rfl | simp | (simp; omega)))
            · intro dn us w6 A hev hy hG hdn hdep K hK
              have d3 : dn 3 = true := allD_mem hdep (by decide)
              have e0 : A.eval (.tmp 0) = .slice (some ⟨g, 0, none⟩) l.length cap := by rw [hev]; rfl
              have hg : us 3 = .bool true := hG.pre 3 d3
              rw [if_pos (by rw [hy]; show ((match us 3 with | .bool b => some b | _ => none) == some true) = true; rw [hg]; rfl)]
              unfold Oper.wp execOp
              generalize A.eval = ev at e0 ⊢
              go_simp
              exact hK _ _ (hG.first (by first | rfl | simp | (simp; omega)))
            · intro dn us w6 A hev hy hG hdn hdep K hK
              have d3 : dn 3 = true := allD_mem hdep (by decide)
              have e0 : A.eval (.tmp 9) = .int .i64 ((m + 1 : Nat) : Int) := by rw [hev]; rfl
              have hg : us 3 = .bool true := hG.pre 3 d3
              rw [if_pos (by rw [hy]; show ((match us 3 with | .bool b => some b | _ => none) == some true) = true; rw [hg]; rfl)]
              unfold Oper.wp execOp
              generalize A.eval = ev at e0 ⊢
              go_simp
              exact hK _ _ (hG.first (by first | rfl | simp | (simp; omega)))
            · intro dn us w6 A hev hy hG hdn hdep K hK
              have d3 : dn 3 = true := allD_mem hdep (by decide)
              have d5 : dn 5 = true := allD_mem hdep (by decide)
              have d6 : dn 6 = true := allD_mem hdep (by decide)
              have e0 : A.eval (.tmp 23) = .slice (some ⟨g, 0, none⟩) l.length cap := by rw [hev]; exact hG.pre 5 d5
              have e1 : A.eval (.tmp 24) = .int .i64 ((m + 1 : Nat) : Int) := by rw [hev]; exact hG.pre 6 d6
              have hg : us 3 = .bool true := hG.pre 3 d3
              rw [if_pos (by rw [hy]; show ((match us 3 with | .bool b => some b | _ => none) == some true) = true; rw [hg]; rfl)]
              unfold Oper.wp execOp
              generalize A.eval = ev at e0 e1 ⊢
              go_simp
              exact hK _ _ (hG.first (by first | rfl | simp | (simp; omega)))
            · intro dn us w6 A hev hy hG hdn hdep K hK
              have d3 : dn 3 = true := allD_mem hdep (by decide)
              have d7 : dn 7 = true := allD_mem hdep (by decide)
              have e0 : A.eval (.tmp 25) = .pointer (some ⟨g, m * 2 + 2, none⟩) := by rw [hev]; exact hG.pre 7 d7
              have hg : us 3 = .bool true := hG.pre 3 d3
              rw [if_pos (by rw [hy]; show ((match us 3 with | .bool b => some b | _ => none) == some true) = true; rw [hg]; rfl)]
              refine op_ld 103 (.tmp 25) rfl (#[.int .u64 x.1, .int .u64 x.2]) e0 _ (HA.out.below' hG.below) Tryz.underlying103 rfl (by kernel_rfl) (four_hi hpl) ?_
              exact hK _ _ (hG.first rfl)
            · intro dn us w6 A hev hy hG hdn hdep K hK
              have d3 : dn 3 = true := allD_mem hdep (by decide)
              have e0 : A.eval (.tmp 0) = .slice (some ⟨g, 0, none⟩) l.length cap := by rw [hev]; rfl
              have hg : us 3 = .bool true := hG.pre 3 d3
              rw [if_pos (by rw [hy]; show ((match us 3 with | .bool b => some b | _ => none) == some true) = true; rw [hg]; rfl)]
              unfold Oper.wp execOp
              generalize A.eval = ev at e0 ⊢
              go_simp
              exact hK _ _ (hG.first (by first | rfl | simp | (simp; omega)))
            · intro dn us w6 A hev hy hG hdn hdep K hK
              have d3 : dn 3 = true := allD_mem hdep (by decide)
              have e0 : A.eval (.tmp 9) = .int .i64 ((m + 1 : Nat) : Int) := by rw [hev]; rfl
              have hg : us 3 = .bool true := hG.pre 3 d3
              rw [if_pos (by rw [hy]; show ((match us 3 with | .bool b => some b | _ => none) == some true) = true; rw [hg]; rfl)]
              unfold Oper.wp execOp
              generalize A.eval = ev at e0 ⊢
              go_simp
              exact hK _ _ (hG.first (by first | rfl | simp | (simp; omega)))
            · intro dn us w6 A hev hy hG hdn hdep K hK
              have d3 : dn 3 = true := allD_mem hdep (by decide)
              have d10 : dn 10 = true := allD_mem hdep (by decide)
              have e0 : A.eval (.tmp 28) = .int .i64 ((m + 1 : Nat) : Int) := by rw [hev]; exact hG.pre 10 d10
              have e1 : A.eval (.const (.int .i64 1)) = .int .i64 1 := by rw [hev]; rfl
              have hg : us 3 = .bool true := hG.pre 3 d3
              rw [if_pos (by rw [hy]; show ((match us 3 with | .bool b => some b | _ => none) == some true) = true; rw [hg]; rfl)]
              unfold Oper.wp execOp
              generalize A.eval = ev at e0 e1 ⊢
              go_simp
              exact hK _ _ (hG.first (by first | rfl | simp | (simp; omega)))
            · intro dn us w6 A hev hy hG hdn hdep K hK
              have d3 : dn 3 = true := allD_mem hdep (by decide)
              have d9 : dn 9 = true := allD_mem hdep (by decide)
              have d11 : dn 11 = true := allD_mem hdep (by decide)
              have e0 : A.eval (.tmp 27) = .slice (some ⟨g, 0, none⟩) l.length cap := by rw [hev]; exact hG.pre 9 d9
              have e1 : A.eval (.tmp 29) = .int .i64 (m : Int) := by rw [hev]; exact hG.pre 11 d11
              have hg : us 3 = .bool true := hG.pre 3 d3
              rw [if_pos (by rw [hy]; show ((match us 3 with | .bool b => some b | _ => none) == some true) = true; rw [hg]; rfl)]
              unfold Oper.wp execOp
              generalize A.eval = ev at e0 e1 ⊢
              go_simp
              exact hK _ _ (hG.first (by first | rfl | simp | (simp; omega)))
            · intro dn us w6 A hev hy hG hdn hdep K hK
              have d3 : dn 3 = true := allD_mem hdep (by decide)
              have d12 : dn 12 = true := allD_mem hdep (by decide)
              have e0 : A.eval (.tmp 30) = .pointer (some ⟨g, m * 2, none⟩) := by rw [hev]; exact hG.pre 12 d12
              have hg : us 3 = .bool true := hG.pre 3 d3
              rw [if_pos (by rw [hy]; show ((match us 3 with | .bool b => some b | _ => none) == some true) = true; rw [hg]; rfl)]
              refine op_ld 103 (.tmp 30) rfl (#[.int .u64 q.1, .int .u64 q.2]) e0 _ (HA.out.below' hG.below) Tryz.underlying103 rfl (by kernel_rfl) (four_lo hpl) ?_
              exact hK _ _ (hG.first rfl)
            · intro dn us w6 A hev hy hG hdn hdep K hK
              have d3 : dn 3 = true := allD_mem hdep (by decide)
              have d4 : dn 4 = true := allD_mem hdep (by decide)
              have d8 : dn 8 = true := allD_mem hdep (by decide)
              have d13 : dn 13 = true := allD_mem hdep (by decide)
              have e0 : A.eval (.tmp 22) = .func (.func 115) #[] #[] := by rw [hev]; exact hG.pre 4 d4
              have e1 : A.eval (.tmp 26) = .agg #[.int .u64 x.1, .int .u64 x.2] := by rw [hev]; exact hG.pre 8 d8
              have e2 : A.eval (.tmp 31) = .agg #[.int .u64 q.1, .int .u64 q.2] := by rw [hev]; exact hG.pre 13 d13
              have hg : us 3 = .bool true := hG.pre 3 d3
              rw [if_pos (by rw [hy]; show ((match us 3 with | .bool b => some b | _ => none) == some true) = true; rw [hg]; rfl)]
              unfold Oper.wp execOp
              generalize A.eval = ev at e0 e1 e2 ⊢
              go_simp
              refine (cmp1_any x q _).mono ?_
              rintro e wq ⟨rfl, hb⟩
              exact hK _ _ (hG.called (by rw [HC.out]; rfl) hb)
            · intro dn us w6 A hev hy hG hdn hdep K hK
              have d3 : dn 3 = true := allD_mem hdep (by decide)
              have d14 : dn 14 = true := allD_mem hdep (by decide)
              have e0 : A.eval (.tmp 32) = .int .i64 (-1) := by rw [hev]; exact hG.pre 14 d14
              have e1 : A.eval (.const (.int .i64 0)) = .int .i64 0 := by rw [hev]; rfl
              have hg : us 3 = .bool true := hG.pre 3 d3
              rw [if_pos (by rw [hy]; show ((match us 3 with | .bool b => some b | _ => none) == some true) = true; rw [hg]; rfl)]
              unfold Oper.wp execOp
              generalize A.eval = ev at e0 e1 ⊢
              go_simp
              exact hK _ _ (hG.first (by first | rfl | simp | (simp; omega)))
            · intro dn us w6 A hev hy hG hdn hdep K hK
              have d3 : dn 3 = true := allD_mem hdep (by decide)
              have d15 : dn 15 = true := allD_mem hdep (by decide)
              have e0 : A.eval (.tmp 21) = .bool true := by rw [hev]; exact hG.pre 3 d3
              have e1 : A.eval (.tmp 33) = .bool true := by rw [hev]; exact hG.pre 15 d15
              have e2 : A.eval (.const (.bool false)) = .bool false := by rw [hev]; rfl
              rw [if_pos (by rfl)]
              unfold Oper.wp execOp
              generalize A.eval = ev at e0 e1 e2 ⊢
              go_simp
              exact hK _ _ (hG.first (by first | rfl | simp | (simp; omega)))
            intro dn us wj hG hall
            have u16 : us 16 = .bool true := hG.pre 16 (hall 16 (by decide))
            have hb7 := hG.below
            simp only [fillA, fillT, Nat.reduceAdd, List.setIfInBounds_toArray, List.set_cons_zero, List.set_cons_succ, u16]
            clear hG hall u16
            have hAj := hAi.below' hb7
            have hOj := hOi.thenBelow hb7
            clear hAi hOi hb7
            go_wp2_with fail
            refine wp_region_J (l := [_, _, _, _, _, _, _, _, _, _, _, _, _, _, _, _, _, _]) (SwG g 103 ((pre ++ [Value.int .u64 q.1, Value.int .u64 q.2, Value.int .u64 x.1, Value.int .u64 x.2] ++ tl).toArray) ((pre ++ [Value.int .u64 q.1, Value.int .u64 q.2, Value.int .u64 q.1, Value.int .u64 q.2] ++ tl).toArray) ((pre ++ [Value.int .u64 x.1, Value.int .u64 x.2, Value.int .u64 x.1, Value.int .u64 x.2] ++ tl).toArray) ((pre ++ [Value.int .u64 x.1, Value.int .u64 x.2, Value.int .u64 q.1, Value.int .u64 q.2] ++ tl).toArray) (fun j v => match j with | 0 => v = .slice (some ⟨g, 0, none⟩) l.length cap | 1 => v = .int .i64 ((m + 1 : Nat) : Int) | 2 => v = .slice (some ⟨g, 0, none⟩) l.length cap | 3 => v = .int .i64 ((m + 1 : Nat) : Int) | 4 => v = .int .i64 (m : Int) | 5 => v = .slice (some ⟨g, 0, none⟩) l.length cap | 6 => v = .int .i64 ((m + 1 : Nat) : Int) | 7 => v = .int .i64 (m : Int) | 8 => v = .pointer (some ⟨g, m * 2, none⟩) | 9 => v = .agg #[.int .u64 q.1, .int .u64 q.2] | 10 => v = .slice (some ⟨g, 0, none⟩) l.length cap | 11 => v = .int .i64 ((m + 1 : Nat) : Int) | 12 => v = .pointer (some ⟨g, m * 2 + 2, none⟩) | 13 => v = .agg #[.int .u64 x.1, .int .u64 x.2] | 14 => v = .pointer (some ⟨g, m * 2 + 2, none⟩) | 16 => v = .pointer (some ⟨g, m * 2, none⟩) | _ => True) wj.drew) (by kernel_rfl) (by kernel_rfl) (fun us => SwG.start us hAj.drew) ⟨?_, ?_, ?_, ?_, ?_, ?_, ?_, ?_, ?_, ?_, ?_, ?_, ?_, ?_, ?_, ?_, ?_, ?_, trivial⟩ ?_
            · intro dn us w6 A hev hy hG hdn hdep K hK
              have e0 : A.eval (.tmp 0) = .slice (some ⟨g, 0, none⟩) l.length cap := by rw [hev]; rfl
              rw [if_pos (by rfl)]
              unfold Oper.wp execOp
              generalize A.eval = ev at e0 ⊢
              go_simp
              exact hK _ _ (hG.first (by decide) (by decide) (by first | rfl | simp | (simp; omega)))
            · intro dn us w6 A hev hy hG hdn hdep K hK
              have e0 : A.eval (.tmp 9) = .int .i64 ((m + 1 : Nat) : Int) := by rw [hev]; rfl
              rw [if_pos (by rfl)]
              unfold Oper.wp execOp
              generalize A.eval = ev at e0 ⊢
              go_simp
              exact hK _ _ (hG.first (by decide) (by decide) (by first | rfl | simp | (simp; omega)))
            · intro dn us w6 A hev hy hG hdn hdep K hK
              have e0 : A.eval (.tmp 0) = .slice (some ⟨g, 0, none⟩) l.length cap := by rw [hev]; rfl
              rw [if_pos (by rfl)]
              unfold Oper.wp execOp
              generalize A.eval = ev at e0 ⊢
              go_simp
              exact hK _ _ (hG.first (by decide) (by decide) (by first | rfl | simp | (simp; omega)))
            · intro dn us w6 A hev hy hG hdn hdep K hK
              have e0 : A.eval (.tmp 9) = .int .i64 ((m + 1 : Nat) : Int) := by rw [hev]; rfl
              rw [if_pos (by rfl)]
              unfold Oper.wp execOp
              generalize A.eval = ev at e0 ⊢
              go_simp
              exact hK _ _ (hG.first (by decide) (by decide) (by first | rfl | simp | (simp; omega)))
            · intro dn us w6 A hev hy hG hdn hdep K hK
              have d3 : dn 3 = true := allD_mem hdep (by decide)
              have e0 : A.eval (.tmp 40) = .int .i64 ((m + 1 : Nat) : Int) := by rw [hev]; exact hG.pre 3 (by decide) (by decide) d3
              have e1 : A.eval (.const (.int .i64 1)) = .int .i64 1 := by rw [hev]; rfl
              rw [if_pos (by rfl)]
              unfold Oper.wp execOp
              generalize A.eval = ev at e0 e1 ⊢
              go_simp
              exact hK _ _ (hG.first (by decide) (by decide) (by first | rfl | simp | (simp; omega)))
            · intro dn us w6 A hev hy hG hdn hdep K hK
              have e0 : A.eval (.tmp 0) = .slice (some ⟨g, 0, none⟩) l.length cap := by rw [hev]; rfl
              rw [if_pos (by rfl)]
              unfold Oper.wp execOp
              generalize A.eval = ev at e0 ⊢
              go_simp
              exact hK _ _ (hG.first (by decide) (by decide) (by first | rfl | simp | (simp; omega)))
            · intro dn us w6 A hev hy hG hdn hdep K hK
              have e0 : A.eval (.tmp 9) = .int .i64 ((m + 1 : Nat) : Int) := by rw [hev]; rfl
              rw [if_pos (by rfl)]
              unfold Oper.wp execOp
              generalize A.eval = ev at e0 ⊢
              go_simp
              exact hK _ _ (hG.first (by decide) (by decide) (by first | rfl | simp | (simp; omega)))
            · intro dn us w6 A hev hy hG hdn hdep K hK
              have d6 : dn 6 = true := allD_mem hdep (by decide)
              have e0 : A.eval (.tmp 43) = .int .i64 ((m + 1 : Nat) : Int) := by rw [hev]; exact hG.pre 6 (by decide) (by decide) d6
              have e1 : A.eval (.const (.int .i64 1)) = .int .i64 1 := by rw [hev]; rfl
              rw [if_pos (by rfl)]
              unfold Oper.wp execOp
              generalize A.eval = ev at e0 e1 ⊢
              go_simp
              exact hK _ _ (hG.first (by decide) (by decide) (by first | rfl | simp | (simp; omega)))
            · intro dn us w6 A hev hy hG hdn hdep K hK
              have d5 : dn 5 = true := allD_mem hdep (by decide)
              have d7 : dn 7 = true := allD_mem hdep (by decide)
              have e0 : A.eval (.tmp 42) = .slice (some ⟨g, 0, none⟩) l.length cap := by rw [hev]; exact hG.pre 5 (by decide) (by decide) d5
              have e1 : A.eval (.tmp 44) = .int .i64 (m : Int) := by rw [hev]; exact hG.pre 7 (by decide) (by decide) d7
              rw [if_pos (by rfl)]
              unfold Oper.wp execOp
              generalize A.eval = ev at e0 e1 ⊢
              go_simp
              exact hK _ _ (hG.first (by decide) (by decide) (by first | rfl | simp | (simp; omega)))
            · intro dn us w6 A hev hy hG hdn hdep K hK
              have d8 : dn 8 = true := allD_mem hdep (by decide)
              have e0 : A.eval (.tmp 45) = .pointer (some ⟨g, m * 2, none⟩) := by rw [hev]; exact hG.pre 8 (by decide) (by decide) d8
              refine step_list (wpl_ld rfl 103 (.tmp 45) rfl (#[.int .u64 q.1, .int .u64 q.2]) e0 _ (hG.old9 hdn) Tryz.underlying103 rfl (by kernel_rfl) (four_lo hpl) ⟨rfl, ?_⟩)
              exact hK _ _ (hG.first (by decide) (by decide) rfl)
            · intro dn us w6 A hev hy hG hdn hdep K hK
              have e0 : A.eval (.tmp 0) = .slice (some ⟨g, 0, none⟩) l.length cap := by rw [hev]; rfl
              rw [if_pos (by rfl)]
              unfold Oper.wp execOp
              generalize A.eval = ev at e0 ⊢
              go_simp
              exact hK _ _ (hG.first (by decide) (by decide) (by first | rfl | simp | (simp; omega)))
            · intro dn us w6 A hev hy hG hdn hdep K hK
              have e0 : A.eval (.tmp 9) = .int .i64 ((m + 1 : Nat) : Int) := by rw [hev]; rfl
              rw [if_pos (by rfl)]
              unfold Oper.wp execOp
              generalize A.eval = ev at e0 ⊢
              go_simp
              exact hK _ _ (hG.first (by decide) (by decide) (by first | rfl | simp | (simp; omega)))
            · intro dn us w6 A hev hy hG hdn hdep K hK
              have d10 : dn 10 = true := allD_mem hdep (by decide)
              have d11 : dn 11 = true := allD_mem hdep (by decide)
              have e0 : A.eval (.tmp 47) = .slice (some ⟨g, 0, none⟩) l.length cap := by rw [hev]; exact hG.pre 10 (by decide) (by decide) d10
              have e1 : A.eval (.tmp 48) = .int .i64 ((m + 1 : Nat) : Int) := by rw [hev]; exact hG.pre 11 (by decide) (by decide) d11
              rw [if_pos (by rfl)]
              unfold Oper.wp execOp
              generalize A.eval = ev at e0 e1 ⊢
              go_simp
              exact hK _ _ (hG.first (by decide) (by decide) (by first | rfl | simp | (simp; omega)))
            · intro dn us w6 A hev hy hG hdn hdep K hK
              have d12 : dn 12 = true := allD_mem hdep (by decide)
              have e0 : A.eval (.tmp 49) = .pointer (some ⟨g, m * 2 + 2, none⟩) := by rw [hev]; exact hG.pre 12 (by decide) (by decide) d12
              refine step_list (wpl_ld rfl 103 (.tmp 49) rfl (#[.int .u64 x.1, .int .u64 x.2]) e0 _ (hG.old13 hdn) Tryz.underlying103 rfl (by kernel_rfl) (four_hi hpl) ⟨rfl, ?_⟩)
              exact hK _ _ (hG.first (by decide) (by decide) rfl)
            · intro dn us w6 A hev hy hG hdn hdep K hK
              have d0 : dn 0 = true := allD_mem hdep (by decide)
              have d1 : dn 1 = true := allD_mem hdep (by decide)
              have e0 : A.eval (.tmp 37) = .slice (some ⟨g, 0, none⟩) l.length cap := by rw [hev]; exact hG.pre 0 (by decide) (by decide) d0
              have e1 : A.eval (.tmp 38) = .int .i64 ((m + 1 : Nat) : Int) := by rw [hev]; exact hG.pre 1 (by decide) (by decide) d1
              rw [if_pos (by rfl)]
              unfold Oper.wp execOp
              generalize A.eval = ev at e0 e1 ⊢
              go_simp
              exact hK _ _ (hG.first (by decide) (by decide) (by first | rfl | simp | (simp; omega)))
            · intro dn us w6 A hev hy hG hdn hdep K hK
              have d9 : dn 9 = true := allD_mem hdep (by decide)
              have d13 : dn 13 = true := allD_mem hdep (by decide)
              have d14 : dn 14 = true := allD_mem hdep (by decide)
              have e0 : A.eval (.tmp 51) = .pointer (some ⟨g, m * 2 + 2, none⟩) := by rw [hev]; exact hG.pre 14 (by decide) (by decide) d14
              have e1 : A.eval (.tmp 46) = .agg #[.int .u64 q.1, .int .u64 q.2] := by rw [hev]; exact hG.pre 9 (by decide) (by decide) d9
              have h0 := hG.at_
              rw [hdn] at h0
              cases q0 : dn 17
              · rw [q0] at h0
                refine step_list (wpl_st rfl 103 (.tmp 51) (.tmp 46) rfl _ e0 _ e1 h0 (by kernel_rfl) rfl (congrArg List.toArray (put_hi hpl)) (Nat.ble_eq_true_of_le (by show _ + 2 ≤ _; simp; omega)) fun w7 A7 O7 => ⟨rfl, ?_⟩)
                exact hK _ _ (hG.laid15 d9 d13 hdn (by rw [q0]; exact A7) O7)
              · rw [q0] at h0
                refine step_list (wpl_st rfl 103 (.tmp 51) (.tmp 46) rfl _ e0 _ e1 h0 (by kernel_rfl) rfl (congrArg List.toArray (put_hi hpl)) (Nat.ble_eq_true_of_le (by show _ + 2 ≤ _; simp; omega)) fun w7 A7 O7 => ⟨rfl, ?_⟩)
                exact hK _ _ (hG.laid15 d9 d13 hdn (by rw [q0]; exact A7) O7)
            · intro dn us w6 A hev hy hG hdn hdep K hK
              have d2 : dn 2 = true := allD_mem hdep (by decide)
              have d4 : dn 4 = true := allD_mem hdep (by decide)
              have e0 : A.eval (.tmp 39) = .slice (some ⟨g, 0, none⟩) l.length cap := by rw [hev]; exact hG.pre 2 (by decide) (by decide) d2
              have e1 : A.eval (.tmp 41) = .int .i64 (m : Int) := by rw [hev]; exact hG.pre 4 (by decide) (by decide) d4
              rw [if_pos (by rfl)]
              unfold Oper.wp execOp
              generalize A.eval = ev at e0 e1 ⊢
              go_simp
              exact hK _ _ (hG.first (by decide) (by decide) (by first | rfl | simp | (simp; omega)))
            · intro dn us w6 A hev hy hG hdn hdep K hK
              have d9 : dn 9 = true := allD_mem hdep (by decide)
              have d13 : dn 13 = true := allD_mem hdep (by decide)
              have d16 : dn 16 = true := allD_mem hdep (by decide)
              have e0 : A.eval (.tmp 52) = .pointer (some ⟨g, m * 2, none⟩) := by rw [hev]; exact hG.pre 16 (by decide) (by decide) d16
              have e1 : A.eval (.tmp 50) = .agg #[.int .u64 x.1, .int .u64 x.2] := by rw [hev]; exact hG.pre 13 (by decide) (by decide) d13
              have h0 := hG.at_
              rw [hdn] at h0
              cases q0 : dn 15
              · rw [q0] at h0
                refine step_list (wpl_st rfl 103 (.tmp 52) (.tmp 50) rfl _ e0 _ e1 h0 (by kernel_rfl) rfl (congrArg List.toArray (put_lo hpl)) (Nat.ble_eq_true_of_le (by show _ + 2 ≤ _; simp; omega)) fun w7 A7 O7 => ⟨rfl, ?_⟩)
                exact hK _ _ (hG.laid17 d9 d13 hdn (by rw [q0]; exact A7) O7)
              · rw [q0] at h0
                refine step_list (wpl_st rfl 103 (.tmp 52) (.tmp 50) rfl _ e0 _ e1 h0 (by kernel_rfl) rfl (congrArg List.toArray (put_lo hpl)) (Nat.ble_eq_true_of_le (by show _ + 2 ≤ _; simp; omega)) fun w7 A7 O7 => ⟨rfl, ?_⟩)
                exact hK _ _ (hG.laid17 d9 d13 hdn (by rw [q0]; exact A7) O7)
            intro dn us wk hG hall
            have h15 : dn 15 = true := hall 15 (by decide)
            have h17 : dn 17 = true := hall 17 (by decide)
            have hAk := hG.at_
            rw [h15, h17] at hAk
            have hAk : At wk g 103 (pairsV (midL p x m (l.drop (i + 1))) ++ rest).toArray := by rw [HC1.out]; exact hAk
            have hOk := hOj.drew.trans hG.only
            simp only [fillA, fillT, Nat.reduceAdd, List.setIfInBounds_toArray, List.set_cons_zero, List.set_cons_succ]
            clear hG hall h15 h17 hAj hOj
            go_wp2_with fail
            go_roundg m
            case measure => omega
            case rel =>
              refine ⟨m, rfl, Nat.le_refl _, by omega, ?_, hAk, hOk⟩
              rw [HDQ.out]
              intro y hy
              rcases List.mem_cons.1 hy with rfl | hy
              · exact hxq
              · exact HG.out y hy
          · have hc : (decide (cmpI x.1 q.1 < 0)) = false := by
              unfold cmpI
              rw [if_neg hxq]
              split <;> rfl
            have HC := Lib.hid hc
            clear hc
            go_wp2_with fail
            refine wp_region_J (l := [_, _, _, _, _, _, _, _, _, _, _, _, _, _, _, _, _]) (QG (fun j v => match j with | 0 => v = .int .i64 ((m + 1 : Nat) : Int) | 1 => v = .int .i64 0 | 2 => v = .bool true | 3 => v = .bool true | 4 => v = .func (.func 115) #[] #[] | 5 => v = .slice (some ⟨g, 0, none⟩) l.length cap | 6 => v = .int .i64 ((m + 1 : Nat) : Int) | 7 => v = .pointer (some ⟨g, m * 2 + 2, none⟩) | 8 => v = .agg #[.int .u64 x.1, .int .u64 x.2] | 9 => v = .slice (some ⟨g, 0, none⟩) l.length cap | 10 => v = .int .i64 ((m + 1 : Nat) : Int) | 11 => v = .int .i64 (m : Int) | 12 => v = .pointer (some ⟨g, m * 2, none⟩) | 13 => v = .agg #[.int .u64 q.1, .int .u64 q.2] | 14 => v = .int .i64 (cmpI x.1 q.1) | 15 => v = .bool false | 16 => v = .bool false | _ => True) wr) (by kernel_rfl) (by kernel_rfl) (fun us => QG.start us) ⟨?_, ?_, ?_, ?_, ?_, ?_, ?_, ?_, ?_, ?_, ?_, ?_, ?_, ?_, ?_, ?_, ?_, trivial⟩ ?_
            · intro dn us w6 A hev hy hG hdn hdep K hK
              have e0 : A.eval (.tmp 9) = .int .i64 ((m + 1 : Nat) : Int) := by rw [hev]; rfl
              rw [if_pos (by rfl)]
              unfold Oper.wp execOp
              generalize A.eval = ev at e0 ⊢
              go_simp
              exact hK _ _ (hG.first (by first | rfl | simp | (simp; omega)))
            · intro dn us w6 A hev hy hG hdn hdep K hK
              have e0 : A.eval (.tmp 1) = .int .i64 0 := by rw [hev]; rfl
              rw [if_pos (by rfl)]
              unfold Oper.wp execOp
              generalize A.eval = ev at e0 ⊢
              go_simp
              exact hK _ _ (hG.first (by first | rfl | simp | (simp; omega)))
            · intro dn us w6 A hev hy hG hdn hdep K hK
              have d0 : dn 0 = true := allD_mem hdep (by decide)
              have d1 : dn 1 = true := allD_mem hdep (by decide)
              have e0 : A.eval (.tmp 18) = .int .i64 ((m + 1 : Nat) : Int) := by rw [hev]; exact hG.pre 0 d0
              have e1 : A.eval (.tmp 19) = .int .i64 0 := by rw [hev]; exact hG.pre 1 d1
              rw [if_pos (by rfl)]
              unfold Oper.wp execOp
              generalize A.eval = ev at e0 e1 ⊢
              go_simp
              exact hK _ _ (hG.first (by first | rfl | simp | (simp; omega)))
            · intro dn us w6 A hev hy hG hdn hdep K hK
              have d2 : dn 2 = true := allD_mem hdep (by decide)
              have e0 : A.eval (.tmp 20) = .bool true := by rw [hev]; exact hG.pre 2 d2
              rw [if_pos (by rfl)]
              unfold Oper.wp execOp
              generalize A.eval = ev at e0 ⊢
              go_simp
              exact hK _ _ (hG.first (by first | rfl | simp | (simp; omega)))
            · intro dn us w6 A hev hy hG hdn hdep K hK
              have d3 : dn 3 = true := allD_mem hdep (by decide)
              have e0 : A.eval (.tmp 3) = .func (.func 115) #[] #[] := by rw [hev]; rfl
              have hg : us 3 = .bool true := hG.pre 3 d3
              rw [if_pos (by rw [hy]; show ((match us 3 with | .bool b => some b | _ => none) == some true) = true; rw [hg]; rfl)]
              unfold Oper.wp execOp
              generalize A.eval = ev at e0 ⊢
              go_simp
              exact hK _ _ (hG.first (by first | rfl | simp | (simp; omega)))
            · intro dn us w6 A hev hy hG hdn hdep K hK
              have d3 : dn 3 = true := allD_mem hdep (by decide)
              have e0 : A.eval (.tmp 0) = .slice (some ⟨g, 0, none⟩) l.length cap := by rw [hev]; rfl
              have hg : us 3 = .bool true := hG.pre 3 d3
              rw [if_pos (by rw [hy]; show ((match us 3 with | .bool b => some b | _ => none) == some true) = true; rw [hg]; rfl)]
              unfold Oper.wp execOp
              generalize A.eval = ev at e0 ⊢
              go_simp
              exact hK _ _ (hG.first (by first | rfl | simp | (simp; omega)))
            · intro dn us w6 A hev hy hG hdn hdep K hK
              have d3 : dn 3 = true := allD_mem hdep (by decide)
              have e0 : A.eval (.tmp 9) = .int .i64 ((m + 1 : Nat) : Int) := by rw [hev]; rfl
              have hg : us 3 = .bool true := hG.pre 3 d3
              rw [if_pos (by rw [hy]; show ((match us 3 with | .bool b => some b | _ => none) == some true) = true; rw [hg]; rfl)]
              unfold Oper.wp execOp
              generalize A.eval = ev at e0 ⊢
              go_simp
              exact hK _ _ (hG.first (by first | rfl | simp | (simp; omega)))
            · intro dn us w6 A hev hy hG hdn hdep K hK
              have d3 : dn 3 = true := allD_mem hdep (by decide)
              have d5 : dn 5 = true := allD_mem hdep (by decide)
              have d6 : dn 6 = true := allD_mem hdep (by decide)
              have e0 : A.eval (.tmp 23) = .slice (some ⟨g, 0, none⟩) l.length cap := by rw [hev]; exact hG.pre 5 d5
              have e1 : A.eval (.tmp 24) = .int .i64 ((m + 1 : Nat) : Int) := by rw [hev]; exact hG.pre 6 d6
              have hg : us 3 = .bool true := hG.pre 3 d3
              rw [if_pos (by rw [hy]; show ((match us 3 with | .bool b => some b | _ => none) == some true) = true; rw [hg]; rfl)]
              unfold Oper.wp execOp
              generalize A.eval = ev at e0 e1 ⊢
              go_simp
              exact hK _ _ (hG.first (by first | rfl | simp | (simp; omega)))
            · intro dn us w6 A hev hy hG hdn hdep K hK
              have d3 : dn 3 = true := allD_mem hdep (by decide)
              have d7 : dn 7 = true := allD_mem hdep (by decide)
              have e0 : A.eval (.tmp 25) = .pointer (some ⟨g, m * 2 + 2, none⟩) := by rw [hev]; exact hG.pre 7 d7
              have hg : us 3 = .bool true := hG.pre 3 d3
              rw [if_pos (by rw [hy]; show ((match us 3 with | .bool b => some b | _ => none) == some true) = true; rw [hg]; rfl)]
              refine op_ld 103 (.tmp 25) rfl (#[.int .u64 x.1, .int .u64 x.2]) e0 _ (HA.out.below' hG.below) Tryz.underlying103 rfl (by kernel_rfl) (four_hi hpl) ?_
              exact hK _ _ (hG.first rfl)
            · intro dn us w6 A hev hy hG hdn hdep K hK
              have d3 : dn 3 = true := allD_mem hdep (by decide)
              have e0 : A.eval (.tmp 0) = .slice (some ⟨g, 0, none⟩) l.length cap := by rw [hev]; rfl
              have hg : us 3 = .bool true := hG.pre 3 d3
              rw [if_pos (by rw [hy]; show ((match us 3 with | .bool b => some b | _ => none) == some true) = true; rw [hg]; rfl)]
              unfold Oper.wp execOp
              generalize A.eval = ev at e0 ⊢
              go_simp
              exact hK _ _ (hG.first (by first | rfl | simp | (simp; omega)))
            · intro dn us w6 A hev hy hG hdn hdep K hK
              have d3 : dn 3 = true := allD_mem hdep (by decide)
              have e0 : A.eval (.tmp 9) = .int .i64 ((m + 1 : Nat) : Int) := by rw [hev]; rfl
              have hg : us 3 = .bool true := hG.pre 3 d3
              rw [if_pos (by rw [hy]; show ((match us 3 with | .bool b => some b | _ => none) == some true) = true; rw [hg]; rfl)]
              unfold Oper.wp execOp
              generalize A.eval = ev at e0 ⊢
              go_simp
              exact hK _ _ (hG.first (by first | rfl | simp | (simp; omega)))
            · intro dn us w6 A hev hy hG hdn hdep K hK
              have d3 : dn 3 = true := allD_mem hdep (by decide)
              have d10 : dn 10 = true := allD_mem hdep (by decide)
              have e0 : A.eval (.tmp 28) = .int .i64 ((m + 1 : Nat) : Int) := by rw [hev]; exact hG.pre 10 d10
              have e1 : A.eval (.const (.int .i64 1)) = .int .i64 1 := by rw [hev]; rfl
              have hg : us 3 = .bool true := hG.pre 3 d3
              rw [if_pos (by rw [hy]; show ((match us 3 with | .bool b => some b | _ => none) == some true) = true; rw [hg]; rfl)]
              unfold Oper.wp execOp
              generalize A.eval = ev at e0 e1 ⊢
              go_simp
              exact hK _ _ (hG.first (by first | rfl | simp | (simp; omega)))
            · intro dn us w6 A hev hy hG hdn hdep K hK
              have d3 : dn 3 = true := allD_mem hdep (by decide)
              have d9 : dn 9 = true := allD_mem hdep (by decide)
              have d11 : dn 11 = true := allD_mem hdep (by decide)
              have e0 : A.eval (.tmp 27) = .slice (some ⟨g, 0, none⟩) l.length cap := by rw [hev]; exact hG.pre 9 d9
              have e1 : A.eval (.tmp 29) = .int .i64 (m : Int) := by rw [hev]; exact hG.pre 11 d11
              have hg : us 3 = .bool true := hG.pre 3 d3
              rw [if_pos (by rw [hy]; show ((match us 3 with | .bool b => some b | _ => none) == some true) = true; rw [hg]; rfl)]
              unfold Oper.wp execOp
              generalize A.eval = ev at e0 e1 ⊢
              go_simp
              exact hK _ _ (hG.first (by first | rfl | simp | (simp; omega)))
            · intro dn us w6 A hev hy hG hdn hdep K hK
              have d3 : dn 3 = true := allD_mem hdep (by decide)
              have d12 : dn 12 = true := allD_mem hdep (by decide)
              have e0 : A.eval (.tmp 30) = .pointer (some ⟨g, m * 2, none⟩) := by rw [hev]; exact hG.pre 12 d12
              have hg : us 3 = .bool true := hG.pre 3 d3
              rw [if_pos (by rw [hy]; show ((match us 3 with | .bool b => some b | _ => none) == some true) = true; rw [hg]; rfl)]
              refine op_ld 103 (.tmp 30) rfl (#[.int .u64 q.1, .int .u64 q.2]) e0 _ (HA.out.below' hG.below) Tryz.underlying103 rfl (by kernel_rfl) (four_lo hpl) ?_
              exact hK _ _ (hG.first rfl)
            · intro dn us w6 A hev hy hG hdn hdep K hK
              have d3 : dn 3 = true := allD_mem hdep (by decide)
              have d4 : dn 4 = true := allD_mem hdep (by decide)
              have d8 : dn 8 = true := allD_mem hdep (by decide)
              have d13 : dn 13 = true := allD_mem hdep (by decide)
              have e0 : A.eval (.tmp 22) = .func (.func 115) #[] #[] := by rw [hev]; exact hG.pre 4 d4
              have e1 : A.eval (.tmp 26) = .agg #[.int .u64 x.1, .int .u64 x.2] := by rw [hev]; exact hG.pre 8 d8
              have e2 : A.eval (.tmp 31) = .agg #[.int .u64 q.1, .int .u64 q.2] := by rw [hev]; exact hG.pre 13 d13
              have hg : us 3 = .bool true := hG.pre 3 d3
              rw [if_pos (by rw [hy]; show ((match us 3 with | .bool b => some b | _ => none) == some true) = true; rw [hg]; rfl)]
              unfold Oper.wp execOp
              generalize A.eval = ev at e0 e1 e2 ⊢
              go_simp
              refine (cmp1_any x q _).mono ?_
              rintro e wq ⟨rfl, hb⟩
              exact hK _ _ (hG.called rfl hb)
            · intro dn us w6 A hev hy hG hdn hdep K hK
              have d3 : dn 3 = true := allD_mem hdep (by decide)
              have d14 : dn 14 = true := allD_mem hdep (by decide)
              have e0 : A.eval (.tmp 32) = .int .i64 (cmpI x.1 q.1) := by rw [hev]; exact hG.pre 14 d14
              have e1 : A.eval (.const (.int .i64 0)) = .int .i64 0 := by rw [hev]; rfl
              have hc := HC.out
              have hg : us 3 = .bool true := hG.pre 3 d3
              rw [if_pos (by rw [hy]; show ((match us 3 with | .bool b => some b | _ => none) == some true) = true; rw [hg]; rfl)]
              unfold Oper.wp execOp
              generalize A.eval = ev at e0 e1 ⊢
              go_simp
              exact hK _ _ (hG.first (by first | rfl | simp | (simp; omega)))
            · intro dn us w6 A hev hy hG hdn hdep K hK
              have d3 : dn 3 = true := allD_mem hdep (by decide)
              have d15 : dn 15 = true := allD_mem hdep (by decide)
              have e0 : A.eval (.tmp 21) = .bool true := by rw [hev]; exact hG.pre 3 d3
              have e1 : A.eval (.tmp 33) = .bool false := by rw [hev]; exact hG.pre 15 d15
              have e2 : A.eval (.const (.bool false)) = .bool false := by rw [hev]; rfl
              rw [if_pos (by rfl)]
              unfold Oper.wp execOp
              generalize A.eval = ev at e0 e1 e2 ⊢
              go_simp
              exact hK _ _ (hG.first (by first | rfl | simp | (simp; omega)))
            intro dn us w7 hG hall
            have u16 : us 16 = .bool false := hG.pre 16 (hall 16 (by decide))
            have hb7 := hG.below
            simp only [fillA, fillT, Nat.reduceAdd, List.setIfInBounds_toArray, List.set_cons_zero, List.set_cons_succ, u16]
            clear hG hall u16
            have e := insPair_at HPS.out (by have := HPL.out; omega) HG.out (.inr ⟨q, HQ.out, by omega⟩)
            have hA7 : At w7 g 103 (pairsV (insPair p x ++ l.drop (i + 1)) ++ rest).toArray := by
              rw [e]
              have e2 : p.take (m + 1) ++ x :: p.drop (m + 1) ++ l.drop (i + 1) = midL p x (m + 1) (l.drop (i + 1)) := by unfold midL; simp
              rw [e2, HM.out]; exact hAi.below' hb7
            have hO7 := hOi.thenBelow hb7
            clear hAi hOi e
            go_wp2_with fail
            go_roundg (l.length - i)
            case measure => omega
            case rel => exact ⟨i + 1, rfl, by omega, by omega, .inr (by omega), by rw [HT.out]; exact hA7, hO7⟩
    · have e : isort l = isort (l.take i) ++ l.drop i := by
        rcases hil with rfl | h
        · simp [isort]
        · have : i = l.length := by omega
          subst this; simp
      have hAe : At wr g 103 (pairsV (isort l) ++ rest).toArray := by rw [e]; exact hA
      clear e hA
      go_wp2_with fail
      go_end0
      exact ⟨rfl, hAe, hO⟩

set_option maxRecDepth 100000 in
set_option maxHeartbeats 4000000 in
/-- The whole: where there are few. -/
theorem stable_any (l : List (Int × Int)) (g cap : Nat) (rest : List Value) (w : World) (hA : At w g 103 (pairsV l ++ rest).toArray) (hl : l.length ≤ 19) :
    Calls Tryz.prog 114 #[.slice (some ⟨g, 0, none⟩) l.length cap, .func (.func 115) #[] #[]] w fun e w' => e = .returned (.tuple #[]) ∧ At w' g 103 (pairsV (isort l) ++ rest).toArray ∧ Only (fun j => j = g) w w' := by
  have hst : Calls Tryz.prog 177 #[.slice (some ⟨g, 0, none⟩) l.length cap, .int .i64 l.length, .func (.func 115) #[] #[]] w fun e w' => e = .returned (.tuple #[]) ∧ At w' g 103 (pairsV (isort l) ++ rest).toArray ∧ Only (fun j => j = g) w w' := by
    go_enter Tryz.func177, Tryz.ntmps177
    go_wp2_with fail
    refine wp_loop_rounds 1 ?_
    rw [rounds_succ]
    go_wp2_with (go_at_call 197; refine (insertion_any l g cap rest _ hA (by omega)).mono ?_; rintro e w1 ⟨rfl, hA1, hO1⟩)
    refine wp_loop_rounds 1 ?_
    rw [rounds_succ]
    go_wp2_with fail

    go_end0
    exact ⟨rfl, hA1, hO1⟩
  go_enter Tryz.func114, Tryz.ntmps114
  go_wp2_with (go_at_call 177; refine hst.mono ?_; rintro e w1 ⟨rfl, hA1, hO1⟩)
  go_end0
  exact ⟨rfl, hA1, hO1⟩
end Go.Proofs.YtccmjljlfgbicaaGreat

/- Sets: maps from integers to true, in memory. -/
namespace Go.Proofs.YtccmjljlfgbicaaGreat
open Go.ChangeShapes Go.WideShapes Go.ChangeAt Go.RowKit

def setEntry (ik : IntKind) (x : Int × Nat) : MapEntry := { key := .int ik x.1, val := .bool true, born := x.2 }
def setMap (ik : IntKind) (es : List Int) : Array MapEntry := (es.zipIdx.map (setEntry ik)).toArray
/-- Block g is a set. -/
def SetAt (w : World) (g : Nat) (ik : IntKind) (es : List Int) : Prop := w.heap[g]? = some (.map (setMap ik es) es.length)
/-- One more in a set. -/
def addS (es : List Int) (n : Int) : List Int := if n ∈ es then es else es ++ [n]
theorem mem_addS {es : List Int} {n m : Int} : m ∈ addS es n ↔ m ∈ es ∨ m = n := by
  unfold addS
  split
  · rename_i h
    constructor
    · exact .inl
    · rintro (h1 | rfl)
      · exact h1
      · exact h
  · simp

section
variable {w w' : World} {g : Nat} {ik : IntKind} {es : List Int}
theorem SetAt.lt (h : SetAt w g ik es) : g < w.heap.size := by
  rcases Nat.lt_or_ge g w.heap.size with hlt | hge
  · exact hlt
  · unfold SetAt at h; rw [Array.getElem?_eq_none hge] at h; cases h
theorem SetAt.same (h : SetAt w g ik es) (e : w'.heap[g]? = w.heap[g]?) : SetAt w' g ik es := e.trans h
theorem SetAt.only {S : Nat → Prop} (h : SetAt w g ik es) (ho : Only S w w') (hs : ¬ S g) : SetAt w' g ik es := (ho.block g h.lt hs).trans h
theorem SetAt.below (h : SetAt w g ik es) (hb : Below w.heap.size w w') : SetAt w' g ik es := (hb.block g h.lt).trans h
end

theorem SetAt.new (w : World) (ik : IntKind) : SetAt (w.alloc (.map #[] 0)) w.heap.size ik [] := heap_alloc_new w _
theorem SetAt.alloc {w : World} {g : Nat} {ik : IntKind} {es : List Int} (h : SetAt w g ik es) (o : Obj) : SetAt (w.alloc o) g ik es := (Below.heap_alloc w o g h.lt).trans h
theorem setFind (ik : IntKind) (k : Int) : ∀ (es : List Int) (i : Nat), ∃ r, Instr.findNow (.int ik) (.int ik k) ((es.zipIdx i).map (setEntry ik)) i = some r ∧
    ((k ∈ es ∧ ∃ j, r = some (i + j, .bool true) ∧ es[j]? = some k) ∨ (k ∉ es ∧ r = none))
  | [], i => ⟨none, rfl, .inr ⟨by simp, rfl⟩⟩
  | a :: es, i => by
    rw [List.zipIdx_cons, List.map_cons]
    by_cases h : k = a
    · refine ⟨some (i, .bool true), ?_, .inl ⟨by simp [h], 0, rfl, by simp [h]⟩⟩
      simp [Instr.findNow, Instr.sameNow, setEntry, h]
    · have h' : (k == a) = false := by rw [beq_eq_false_iff_ne]; exact h
      obtain ⟨r, h1, h2⟩ := setFind ik k es (i + 1)
      refine ⟨r, ?_, ?_⟩
      · simp only [Instr.findNow, Instr.sameNow, setEntry, h', if_true]
        exact h1
      · rcases h2 with ⟨a1, j, a2, a3⟩ | ⟨a1, a2⟩
        · exact .inl ⟨by simp [a1], j + 1, by rw [a2]; congr 2; omega, by simpa using a3⟩
        · exact .inr ⟨by simp [h, a1], a2⟩

section
variable {P : Program} {ik : IntKind}
theorem run_findSet {kt : TypeId} (ht : P.underlying kt = some (.int ik)) (k : Int) (es : List Int) (w : World) :
    ∃ r, (Instr.findKey kt (.int ik k) (setMap ik es).toList).run P w = .ok r w ∧ ((k ∈ es ∧ ∃ j, r = some (j, .bool true) ∧ es[j]? = some k) ∨ (k ∉ es ∧ r = none)) := by
  obtain ⟨r, h1, h2⟩ := setFind ik k es 0
  have e : (setMap ik es).toList = (es.zipIdx 0).map (setEntry ik) := by simp [setMap]
  refine ⟨r, ?_, by simpa using h2⟩
  rw [e]
  simp only [Instr.findKey]
  simp [run_underlying ht, h1]
theorem run_ckS {kt : TypeId} (ht : P.underlying kt = some (.int ik)) (e : Bool) (k : Int) (w : World) : (Instr.checkKey e 10000 kt (.int ik k)).run P w = .ok () w :=
  MapKept.run_checkKey ht (by simp [MapKept.IsKey]) e 9999
theorem run_has {mt kt et : TypeId} (hm : P.underlying mt = some (.map kt et)) (ht : P.underlying kt = some (.int ik)) {w : World} {g : Nat} {es : List Int} (hg : SetAt w g ik es) (k : Int) (hz : ∀ w, (zeroValue et).run P w = .ok (.bool false) w) :
    (Instr.lookup mt (.map (some g)) (.int ik k) false).run P w = .ok (.bool (decide (k ∈ es))) w := by
  obtain ⟨r, hr, hrl⟩ := run_findSet ht k es w
  unfold SetAt at hg
  rcases hrl with ⟨h1, j, rfl, h3⟩ | ⟨h1, rfl⟩
  · simp [Instr.lookup, run_underlying hm, MapKept.run_getObj_map hg, run_ckS ht, hr, h1]
  · simp [Instr.lookup, run_underlying hm, MapKept.run_getObj_map hg, run_ckS ht, hr, hz, h1]
theorem setMap_modify {es : List Int} {j : Nat} {k : Int} (h : es[j]? = some k) : (setMap ik es).modify j (fun e => { e with key := .int ik k, val := .bool true }) = setMap ik es := by
  apply Array.ext_getElem?
  intro i
  rw [Array.getElem?_modify]
  split
  · rename_i e
    subst e
    have : (setMap ik es)[j]? = some (setEntry ik (k, j)) := by simp [setMap, h]
    rw [this]
    rfl
  · rfl
theorem run_add {mt kt et : TypeId} (hm : P.underlying mt = some (.map kt et)) (ht : P.underlying kt = some (.int ik)) {w : World} {g : Nat} {es : List Int} (hg : SetAt w g ik es) (k : Int) :
    (Instr.mapUpdate mt (.map (some g)) (.int ik k) (.bool true)).run P w = .ok () (putObj w g (.map (setMap ik (addS es k)) (addS es k).length)) := by
  obtain ⟨r, hr, hrl⟩ := run_findSet ht k es w
  unfold SetAt at hg
  rcases hrl with ⟨h1, j, rfl, h3⟩ | ⟨h1, rfl⟩
  · have hk : (setMap ik es)[j]? = some (setEntry ik (k, j)) := by simp [setMap, h3]
    have hst : ∀ w, (Instr.keyThatStays (.int ik k) (.int ik k)).run P w = .ok (.int ik k) w := fun w => MapKept.run_keyThatStays (d := .int ik) (by simp [MapKept.IsKey])
    have ea : addS es k = es := if_pos h1
    rw [ea]
    simp [Instr.mapUpdate, run_underlying hm, MapKept.run_getObj_map hg, run_ckS ht, hr, hk, setEntry, hst, setMap_modify h3, putObj, MapKept.run_setObj_map _ hg]
  · have e : (setMap ik es).push { key := .int ik k, val := .bool true, born := es.length } = setMap ik (es ++ [k]) := by
      simp [setMap, List.zipIdx_append, setEntry]
    have ea : addS es k = es ++ [k] := if_neg h1
    rw [ea]
    simp [Instr.mapUpdate, run_underlying hm, MapKept.run_getObj_map hg, run_ckS ht, hr, e, putObj, MapKept.run_setObj_map _ hg]
theorem putObj_set {w : World} {g : Nat} (hg : g < w.heap.size) (es : List Int) : SetAt (putObj w g (.map (setMap ik es) es.length)) g ik es := by
  unfold SetAt putObj
  simp [hg]
theorem putObj_only' {w : World} {g : Nat} (o : Obj) : Only (fun j => j = g) w (putObj w g o) := by
  refine ⟨rfl, rfl, rfl, ?_, fun i hi hn => ?_⟩
  · simp [putObj]
  · have hn' : ¬ i = g := hn
    show (w.heap.setIfInBounds g o)[i]? = _
    rw [Array.getElem?_setIfInBounds_ne (Ne.symm hn')]

variable {ops : Array Oper} {rest : List Oper} {o : Oper} {a : Act} {w : World} {Q : Exit → Act → World → Prop} {K : Act → World → Prop}
theorem op_makeSet (t : TypeId) (ho : o.op = .makeMap t none) (ik : IntKind) (hk : SetAt (w.alloc (.map #[] 0)) w.heap.size ik [] → K (a.put o.dst (.map (some w.heap.size))) (w.alloc (.map #[] 0))) : Oper.wp P o a w K Q := by
  unfold Oper.wp execOp
  have hmm : (Instr.makeMap t none).run P w = .ok (.map (some w.heap.size)) (w.alloc (.map #[] 0)) := rfl
  simp only [ho, Option.map_none, Sem.run_bind, hmm, Sem.run_pure, Result.andThen_ok]
  exact hk (by unfold SetAt; exact heap_alloc_new w _)
theorem op_add (mt : TypeId) (m k x : Operand) (ho : o.op = .mapUpdate mt m k x) {kt et : TypeId} (hm : P.underlying mt = some (.map kt et)) (ht : P.underlying kt = some (.int ik)) (g : Nat) (hx : a.eval m = .map (some g)) (n : Int) (hkk : a.eval k = .int ik n) (hv : a.eval x = .bool true)
    {es : List Int} (hM : SetAt w g ik es) (h : ∀ w', SetAt w' g ik (addS es n) → Only (fun j => j = g) w w' → K (a.put o.dst undef) w') : Oper.wp P o a w K Q := by
  have hr := run_add (P := P) hm ht hM n
  have hn := h _ (putObj_set hM.lt _) (putObj_only' _)
  unfold Oper.wp execOp
  simp only [ho, hx, hkk, hv, Sem.run_bind, hr, Sem.run_pure, Result.andThen_ok]
  exact hn
theorem op_has (mt : TypeId) (m k : Operand) (ho : o.op = .lookup mt m k false) {kt et : TypeId} (hm : P.underlying mt = some (.map kt et)) (ht : P.underlying kt = some (.int ik)) (hz : ∀ w, (zeroValue et).run P w = .ok (.bool false) w) (g : Nat) (hx : a.eval m = .map (some g)) (n : Int) (hkk : a.eval k = .int ik n)
    {es : List Int} (hM : SetAt w g ik es) (h : K (a.put o.dst (.bool (decide (n ∈ es)))) w) : Oper.wp P o a w K Q := by
  have hr := run_has (P := P) hm ht hM n hz
  unfold Oper.wp execOp
  simp only [ho, hx, hkk, Sem.run_bind, hr, Sem.run_pure, Result.andThen_ok]
  exact h
/-- An operation that is wanted, by its own law. -/
theorem wpl_op (hw : Region.wanted o (yielded ops a.tmps) = true) (h : Oper.wp P o a w (fun a' w' => wpList P ops Q rest a' w') Q) : wpList P ops Q (o :: rest) a w := by
  unfold wpList
  rw [if_pos hw]
  exact .inl h
end
end Go.Proofs.YtccmjljlfgbicaaGreat

/- Contracts of look: the call of an operation, if it is an insert; is it in? Printed by lookgen.py. -/
namespace Go.Proofs.YtccmjljlfgbicaaGreat
open Go.ChangeShapes Go.WideShapes Go.ChangeAt Go.RowKit

abbrev GCall.c (c : GCall) : Array Value := #[.int .i64 c.kind, .int .u64 c.key, .int .u64 c.val, .int .i64 c.limit]
/-- Is an operation an insert? -/
def St.insertOf (s : St) (n : Int) : Bool := (s.callOf n).isSome && (s.call n).kind == 1
/-- Is an insert in? -/
def St.isIn (s : St) (n : Int) : Bool := s.insertOf n && s.peek (s.wordAt n) == 1
abbrev zc : Array Value := #[.int .i64 0, .int .u64 0, .int .u64 0, .int .i64 0]

set_option maxRecDepth 100000 in
set_option maxHeartbeats 4000000 in
theorem lcall_any {k : Blks} {s : St} (n : Int) (w : World) (h : Holds k s w) :
    Calls Tryz.prog 113 #[.pointer (some ⟨k.bw, 0, none⟩), .int .i64 n] w fun e w' => e = .returned (.tuple #[.agg (s.call n).c, .bool (s.insertOf n)]) ∧ Below w.heap.size w w' := by
  have H := Lib.hid h
  clear h
  have A40 := At.new w 28 zc
  have D0 : Below w.heap.size w (w.alloc (.cells zc 28)) := (Below.refl _ w).alloc (Nat.le_refl _) _
  have H0 := H.out.below D0
  obtain ⟨-, g5, g6, gl⟩ := H0.wfacts
  have HH := Lib.hid H0
  clear H0
  cases hc : (s.callOf n).isSome with
  | true =>
    have hq : s.insertOf n = ((s.call n).kind == 1) := by unfold St.insertOf; rw [hc]; rfl
    rw [hq]
    have HC := Lib.hid hc
    clear hq hc
    go_enter Tryz.func113, Tryz.ntmps113
    go_upto_region 1 with fail
    generalize w.alloc (.cells zc 28) = w0 at *
    have hcon := callof_any n w0 HH.out
    rw [HC.out] at hcon
    have HCN := Lib.hid hcon
    clear hcon
    go_wp2_with (first
      | (refine wpl_st rfl 28 _ _ rfl (s.call n).c rfl _ rfl (At.new w1 _ _) (by kernel_rfl) rfl rfl rfl ?_; intro w2 A6 O6)
      | (go_at_call 97; refine HCN.out.mono ?_; rintro e w1 ⟨rfl, hb1⟩))
    have D12 : Below w1.heap.size w1 w2 := ((Below.refl _ w1).alloc (Nat.le_refl _) _).trans (O6.below (by simp) fun j hj e => by have e' : j = w1.heap.size := e; omega)
    have A4 := (A40.below' hb1).below' D12
    have l0 := A40.lt
    have l1 := hb1.size
    have D2 : Below w.heap.size w w2 := D0.trans ((hb1.trans (D12.mono hb1.size)).mono (by omega))
    have nn : w.heap.size ≠ w1.heap.size := by omega
    refine wp_region_J (l := [_, _, _, _, _, _, _, _, _, _]) (OutG 8 99 28 28 w.heap.size w1.heap.size zc (s.call n).c (s.call n).c (s.call n).c (fun j v => match j with | 0 => v = .agg (s.call n).c | 1 => v = .int .i64 0 | 2 => v = .bool true | 3 => v = .bool true | 4 => v = .pointer (some ⟨w1.heap.size, 0, none⟩) | 5 => v = .int .i64 (s.call n).kind | 6 => v = .bool ((s.call n).kind == 1) | 7 => v = .bool ((s.call n).kind == 1) | 9 => v = .bool ((s.call n).kind == 1) | _ => True) w2.drew) (by kernel_rfl) (by kernel_rfl) (fun us => OutG.start us A4.drew A6.drew) ⟨?_, ?_, ?_, ?_, ?_, ?_, ?_, ?_, ?_, ?_, trivial⟩ ?_
    · intro dn us w6 A hev hy hG hdn hdep K hK
      have e0 : A.eval (.tmp 6) = .pointer (some ⟨w1.heap.size, 0, none⟩) := by rw [hev]; rfl
      refine step_list (wpl_ld rfl 28 (.tmp 6) rfl (s.call n).c e0 _ (by have := hG.a5; rwa [ite_self] at this) Tryz.underlying28 rfl (by kernel_rfl) rfl ⟨rfl, ?_⟩)
      exact hK _ _ (hG.first (by decide) (by decide) rfl)
    · intro dn us w6 A hev hy hG hdn hdep K hK
      have e0 : A.eval (.tmp 7) = .int .i64 0 := by rw [hev]; rfl
      rw [if_pos (by rfl)]
      unfold Oper.wp execOp
      generalize A.eval = ev at e0 ⊢
      go_simp
      exact hK _ _ (hG.first (by decide) (by decide) (by first | rfl | simp))
    · intro dn us w6 A hev hy hG hdn hdep K hK
      have d1 : dn 1 = true := allD_mem hdep (by decide)
      have e0 : A.eval (.tmp 18) = .int .i64 0 := by rw [hev]; exact hG.pre 1 (by decide) (by decide) d1
      have e1 : A.eval (.const (.int .i64 0)) = .int .i64 0 := by rw [hev]; rfl
      rw [if_pos (by rfl)]
      unfold Oper.wp execOp
      generalize A.eval = ev at e0 e1 ⊢
      go_simp
      exact hK _ _ (hG.first (by decide) (by decide) (by first | rfl | simp))
    · intro dn us w6 A hev hy hG hdn hdep K hK
      have d2 : dn 2 = true := allD_mem hdep (by decide)
      have e0 : A.eval (.tmp 19) = .bool true := by rw [hev]; exact hG.pre 2 (by decide) (by decide) d2
      rw [if_pos (by rfl)]
      unfold Oper.wp execOp
      generalize A.eval = ev at e0 ⊢
      go_simp
      exact hK _ _ (hG.first (by decide) (by decide) (by first | rfl | simp))
    · intro dn us w6 A hev hy hG hdn hdep K hK
      have d3 : dn 3 = true := allD_mem hdep (by decide)
      have e0 : A.eval (.tmp 6) = .pointer (some ⟨w1.heap.size, 0, none⟩) := by rw [hev]; rfl
      have hg : us 3 = .bool true := hG.pre 3 (by decide) (by decide) d3
      rw [if_pos (by rw [hy]; show ((match us 3 with | .bool b => some b | _ => none) == some true) = true; rw [hg]; rfl)]
      unfold Oper.wp execOp
      generalize A.eval = ev at e0 ⊢
      go_simp
      exact hK _ _ (hG.first (by decide) (by decide) (by first | rfl | simp))
    · intro dn us w6 A hev hy hG hdn hdep K hK
      have d3 : dn 3 = true := allD_mem hdep (by decide)
      have d4 : dn 4 = true := allD_mem hdep (by decide)
      have e0 : A.eval (.tmp 21) = .pointer (some ⟨w1.heap.size, 0, none⟩) := by rw [hev]; exact hG.pre 4 (by decide) (by decide) d4
      have cc0 : w6.cell? ⟨w1.heap.size, 0, none⟩ = some (.int .i64 (s.call n).kind) := by
        have h5 := hG.a5
        rw [ite_self] at h5
        exact h5.cell 0
      have hg : us 3 = .bool true := hG.pre 3 (by decide) (by decide) d3
      rw [if_pos (by rw [hy]; show ((match us 3 with | .bool b => some b | _ => none) == some true) = true; rw [hg]; rfl)]
      unfold Oper.wp execOp
      generalize A.eval = ev at e0 ⊢
      go_simp
      exact hK _ _ (hG.first (by decide) (by decide) (by first | rfl | simp))
    · intro dn us w6 A hev hy hG hdn hdep K hK
      have d3 : dn 3 = true := allD_mem hdep (by decide)
      have d5 : dn 5 = true := allD_mem hdep (by decide)
      have e0 : A.eval (.tmp 22) = .int .i64 (s.call n).kind := by rw [hev]; exact hG.pre 5 (by decide) (by decide) d5
      have e1 : A.eval (.const (.int .i64 1)) = .int .i64 1 := by rw [hev]; rfl
      have hg : us 3 = .bool true := hG.pre 3 (by decide) (by decide) d3
      rw [if_pos (by rw [hy]; show ((match us 3 with | .bool b => some b | _ => none) == some true) = true; rw [hg]; rfl)]
      unfold Oper.wp execOp
      generalize A.eval = ev at e0 e1 ⊢
      go_simp
      exact hK _ _ (hG.first (by decide) (by decide) (by first | rfl | simp))
    · intro dn us w6 A hev hy hG hdn hdep K hK
      have d3 : dn 3 = true := allD_mem hdep (by decide)
      have d6 : dn 6 = true := allD_mem hdep (by decide)
      have e0 : A.eval (.tmp 20) = .bool true := by rw [hev]; exact hG.pre 3 (by decide) (by decide) d3
      have e1 : A.eval (.tmp 23) = .bool ((s.call n).kind == 1) := by rw [hev]; exact hG.pre 6 (by decide) (by decide) d6
      have e2 : A.eval (.const (.bool false)) = .bool false := by rw [hev]; rfl
      rw [if_pos (by rfl)]
      unfold Oper.wp execOp
      generalize A.eval = ev at e0 e1 e2 ⊢
      go_simp
      exact hK _ _ (hG.first (by decide) (by decide) (by first | rfl | simp))
    · intro dn us w6 A hev hy hG hdn hdep K hK
      have d0 : dn 0 = true := allD_mem hdep (by decide)
      have e0 : A.eval (.tmp 4) = .pointer (some ⟨w.heap.size, 0, none⟩) := by rw [hev]; rfl
      have e1 : A.eval (.tmp 17) = .agg (s.call n).c := by rw [hev]; exact hG.pre 0 (by decide) (by decide) d0
      refine step_list (wpl_st rfl 28 (.tmp 4) (.tmp 17) rfl (s.call n).c e0 _ e1 (hG.old0 hdn) (by kernel_rfl) rfl rfl rfl fun w7 A7 O7 => ⟨rfl, ?_⟩)
      exact hK _ _ (hG.laid0 (by decide) nn O7 A7 _)
    · intro dn us w6 A hev hy hG hdn hdep K hK
      have d7 : dn 7 = true := allD_mem hdep (by decide)
      have e0 : A.eval (.tmp 24) = .bool ((s.call n).kind == 1) := by rw [hev]; exact hG.pre 7 (by decide) (by decide) d7
      rw [if_pos (by rfl)]
      unfold Oper.wp execOp
      generalize A.eval = ev at e0 ⊢
      go_simp
      exact hK _ _ (hG.first (by decide) (by decide) (by first | rfl | simp))
    intro dn us w7 hG hall
    have A7 := hG.out0 (hall 8 (by decide))
    have O7 := hG.only
    have u9 : us 9 = .bool ((s.call n).kind == 1) := hG.pre 9 (by decide) (by decide) (hall 9 (by decide))
    have D7 : Below w.heap.size w w7 := (show Below w.heap.size w w2.drew from D2.drew).trans (O7.below D2.size fun j hj e => by have e' : j = w.heap.size ∨ j = w1.heap.size := e; omega)
    simp only [fillA, fillT, Nat.reduceAdd, List.setIfInBounds_toArray, List.set_cons_zero, List.set_cons_succ, u9]
    clear hG hall u9
    go_wp2_with fail
    exact bodyPost_ret (v := .tuple #[.agg (s.call n).c, .bool ((s.call n).kind == 1)]) (res_cell_tmp (fn := Tryz.f113) Tryz.results113 _ _ w.heap.size _ _ rfl A7 Tryz.underlying28 rfl (by kernel_rfl)) rfl ⟨rfl, D7⟩
  | false =>
    have hq : s.insertOf n = false := by unfold St.insertOf; rw [hc]; rfl
    rw [hq]
    have HC := Lib.hid hc
    clear hq hc
    go_enter Tryz.func113, Tryz.ntmps113
    go_upto_region 1 with fail
    generalize w.alloc (.cells zc 28) = w0 at *
    have hcon := callof_any n w0 HH.out
    rw [HC.out] at hcon
    have HCN := Lib.hid hcon
    clear hcon
    go_wp2_with (first
      | (refine wpl_st rfl 28 _ _ rfl (s.call n).c rfl _ rfl (At.new w1 _ _) (by kernel_rfl) rfl rfl rfl ?_; intro w2 A6 O6)
      | (go_at_call 97; refine HCN.out.mono ?_; rintro e w1 ⟨rfl, hb1⟩))
    have D12 : Below w1.heap.size w1 w2 := ((Below.refl _ w1).alloc (Nat.le_refl _) _).trans (O6.below (by simp) fun j hj e => by have e' : j = w1.heap.size := e; omega)
    have A4 := (A40.below' hb1).below' D12
    have l0 := A40.lt
    have l1 := hb1.size
    have D2 : Below w.heap.size w w2 := D0.trans ((hb1.trans (D12.mono hb1.size)).mono (by omega))
    have nn : w.heap.size ≠ w1.heap.size := by omega
    refine wp_region_J (l := [_, _, _, _, _, _, _, _, _, _]) (OutG 8 99 28 28 w.heap.size w1.heap.size zc (s.call n).c (s.call n).c (s.call n).c (fun j v => match j with | 0 => v = .agg (s.call n).c | 1 => v = .int .i64 4 | 2 => v = .bool false | 3 => v = .bool false | 7 => v = .bool false | 9 => v = .bool false | _ => True) w2.drew) (by kernel_rfl) (by kernel_rfl) (fun us => OutG.start us A4.drew A6.drew) ⟨?_, ?_, ?_, ?_, ?_, ?_, ?_, ?_, ?_, ?_, trivial⟩ ?_
    · intro dn us w6 A hev hy hG hdn hdep K hK
      have e0 : A.eval (.tmp 6) = .pointer (some ⟨w1.heap.size, 0, none⟩) := by rw [hev]; rfl
      refine step_list (wpl_ld rfl 28 (.tmp 6) rfl (s.call n).c e0 _ (by have := hG.a5; rwa [ite_self] at this) Tryz.underlying28 rfl (by kernel_rfl) rfl ⟨rfl, ?_⟩)
      exact hK _ _ (hG.first (by decide) (by decide) rfl)
    · intro dn us w6 A hev hy hG hdn hdep K hK
      have e0 : A.eval (.tmp 7) = .int .i64 4 := by rw [hev]; rfl
      rw [if_pos (by rfl)]
      unfold Oper.wp execOp
      generalize A.eval = ev at e0 ⊢
      go_simp
      exact hK _ _ (hG.first (by decide) (by decide) (by first | rfl | simp))
    · intro dn us w6 A hev hy hG hdn hdep K hK
      have d1 : dn 1 = true := allD_mem hdep (by decide)
      have e0 : A.eval (.tmp 18) = .int .i64 4 := by rw [hev]; exact hG.pre 1 (by decide) (by decide) d1
      have e1 : A.eval (.const (.int .i64 0)) = .int .i64 0 := by rw [hev]; rfl
      rw [if_pos (by rfl)]
      unfold Oper.wp execOp
      generalize A.eval = ev at e0 e1 ⊢
      go_simp
      exact hK _ _ (hG.first (by decide) (by decide) (by first | rfl | simp))
    · intro dn us w6 A hev hy hG hdn hdep K hK
      have d2 : dn 2 = true := allD_mem hdep (by decide)
      have e0 : A.eval (.tmp 19) = .bool false := by rw [hev]; exact hG.pre 2 (by decide) (by decide) d2
      rw [if_pos (by rfl)]
      unfold Oper.wp execOp
      generalize A.eval = ev at e0 ⊢
      go_simp
      exact hK _ _ (hG.first (by decide) (by decide) (by first | rfl | simp))
    · intro dn us w6 A hev hy hG hdn hdep K hK
      have d3 : dn 3 = true := allD_mem hdep (by decide)
      have hg : us 3 = .bool false := hG.pre 3 (by decide) (by decide) d3
      rw [if_neg (by rw [hy]; show ¬ ((match us 3 with | .bool b => some b | _ => none) == some true) = true; rw [hg]; decide)]
      exact hK _ _ (hG.first (by decide) (by decide) trivial)
    · intro dn us w6 A hev hy hG hdn hdep K hK
      have d3 : dn 3 = true := allD_mem hdep (by decide)
      have cc0 : w6.cell? ⟨w1.heap.size, 0, none⟩ = some (.int .i64 (s.call n).kind) := by
        have h5 := hG.a5
        rw [ite_self] at h5
        exact h5.cell 0
      have hg : us 3 = .bool false := hG.pre 3 (by decide) (by decide) d3
      rw [if_neg (by rw [hy]; show ¬ ((match us 3 with | .bool b => some b | _ => none) == some true) = true; rw [hg]; decide)]
      exact hK _ _ (hG.first (by decide) (by decide) trivial)
    · intro dn us w6 A hev hy hG hdn hdep K hK
      have d3 : dn 3 = true := allD_mem hdep (by decide)
      have e0 : A.eval (.const (.int .i64 1)) = .int .i64 1 := by rw [hev]; rfl
      have hg : us 3 = .bool false := hG.pre 3 (by decide) (by decide) d3
      rw [if_neg (by rw [hy]; show ¬ ((match us 3 with | .bool b => some b | _ => none) == some true) = true; rw [hg]; decide)]
      exact hK _ _ (hG.first (by decide) (by decide) trivial)
    · intro dn us w6 A hev hy hG hdn hdep K hK
      have d3 : dn 3 = true := allD_mem hdep (by decide)
      have e0 : A.eval (.tmp 20) = .bool false := by rw [hev]; exact hG.pre 3 (by decide) (by decide) d3
      have e1 : A.eval (.const (.bool false)) = .bool false := by rw [hev]; rfl
      rw [if_pos (by rfl)]
      unfold Oper.wp execOp
      generalize A.eval = ev at e0 e1 ⊢
      go_simp
      exact hK _ _ (hG.first (by decide) (by decide) (by first | rfl | simp))
    · intro dn us w6 A hev hy hG hdn hdep K hK
      have d0 : dn 0 = true := allD_mem hdep (by decide)
      have e0 : A.eval (.tmp 4) = .pointer (some ⟨w.heap.size, 0, none⟩) := by rw [hev]; rfl
      have e1 : A.eval (.tmp 17) = .agg (s.call n).c := by rw [hev]; exact hG.pre 0 (by decide) (by decide) d0
      refine step_list (wpl_st rfl 28 (.tmp 4) (.tmp 17) rfl (s.call n).c e0 _ e1 (hG.old0 hdn) (by kernel_rfl) rfl rfl rfl fun w7 A7 O7 => ⟨rfl, ?_⟩)
      exact hK _ _ (hG.laid0 (by decide) nn O7 A7 _)
    · intro dn us w6 A hev hy hG hdn hdep K hK
      have d7 : dn 7 = true := allD_mem hdep (by decide)
      have e0 : A.eval (.tmp 24) = .bool false := by rw [hev]; exact hG.pre 7 (by decide) (by decide) d7
      rw [if_pos (by rfl)]
      unfold Oper.wp execOp
      generalize A.eval = ev at e0 ⊢
      go_simp
      exact hK _ _ (hG.first (by decide) (by decide) (by first | rfl | simp))
    intro dn us w7 hG hall
    have A7 := hG.out0 (hall 8 (by decide))
    have O7 := hG.only
    have u9 : us 9 = .bool false := hG.pre 9 (by decide) (by decide) (hall 9 (by decide))
    have D7 : Below w.heap.size w w7 := (show Below w.heap.size w w2.drew from D2.drew).trans (O7.below D2.size fun j hj e => by have e' : j = w.heap.size ∨ j = w1.heap.size := e; omega)
    simp only [fillA, fillT, Nat.reduceAdd, List.setIfInBounds_toArray, List.set_cons_zero, List.set_cons_succ, u9]
    clear hG hall u9
    go_wp2_with fail
    exact bodyPost_ret (v := .tuple #[.agg (s.call n).c, .bool (false)]) (res_cell_tmp (fn := Tryz.f113) Tryz.results113 _ _ w.heap.size _ _ rfl A7 Tryz.underlying28 rfl (by kernel_rfl)) rfl ⟨rfl, D7⟩

set_option maxRecDepth 100000 in
set_option maxHeartbeats 4000000 in
theorem lin_any {k : Blks} {s : St} (n : Int) (w : World) (h : Holds k s w) :
    Calls Tryz.prog 112 #[.pointer (some ⟨k.bw, 0, none⟩), .int .i64 n] w fun e w' => e = .returned (.bool (s.isIn n)) ∧ Below w.heap.size w w' := by
  have H := Lib.hid h
  have HM := Lib.hid h.ok.may
  cases hi : s.insertOf n with
  | true =>
    have hq : s.isIn n = (s.peek (s.wordAt n) == 1) := by unfold St.isIn; rw [hi]; rfl
    rw [hq]
    have hcon := lcall_any n w h
    rw [hi] at hcon
    have HCN := Lib.hid hcon
    clear hcon h hi hq
    go_enter Tryz.func112, Tryz.ntmps112
    go_wp2_with (first
      | (refine wpl_st rfl 28 _ _ rfl (s.call n).c rfl _ rfl (At.new w1 _ _) (by kernel_rfl) rfl rfl rfl ?_; intro w2 A6 O6)
      | (go_at_call 113; refine HCN.out.mono ?_; rintro e w1 ⟨rfl, hb1⟩))
    have D12 : Below w1.heap.size w1 w2 := ((Below.refl _ w1).alloc (Nat.le_refl _) _).trans (O6.below (by simp) fun j hj e => by have e' : j = w1.heap.size := e; omega)
    have D2 := hb1.trans (D12.mono hb1.size)
    have HB := Lib.hid (H.out.below D2)
    obtain ⟨⟨g0, g1, g2, g3, g4⟩, g5, g6, gl⟩ := HB.out.wfacts
    refine wp_region_J (l := [_, _, _, _, _, _, _, _, _, _, _, _, _, _, _, _]) (QG (fun j v => match j with | 0 => v = .bool true | 1 => v = .bool true | 2 => v = .pointer (some ⟨k.bw, 0, none⟩) | 3 => v = .pointer (some ⟨k.bw, 0, none⟩) | 4 => v = .pointer (some ⟨k.bw, 5, none⟩) | 5 => v = .pointer (some ⟨k.bc, 0, none⟩) | 6 => v = .pointer (some ⟨k.bw, 0, none⟩) | 7 => v = .pointer (some ⟨k.bw, 0, none⟩) | 8 => v = .pointer (some ⟨k.bw, 0, none⟩) | 9 => v = s.c.val | 10 => v = .int .i64 n | 11 => v = .int .i64 (s.wordAt n) | 12 => v = .int .u64 (s.peek (s.wordAt n)) | 13 => v = .bool (s.peek (s.wordAt n) == 1) | 14 => v = .bool (s.peek (s.wordAt n) == 1) | 15 => v = .bool (s.peek (s.wordAt n) == 1) | _ => True) w2) (by kernel_rfl) (by kernel_rfl) (fun us => QG.start us) ⟨?_, ?_, ?_, ?_, ?_, ?_, ?_, ?_, ?_, ?_, ?_, ?_, ?_, ?_, ?_, ?_, trivial⟩ ?_
    · intro dn us w6 A hev hy hG hdn hdep K hK
      have e0 : A.eval (.tmp 6) = .bool true := by rw [hev]; rfl
      rw [if_pos (by rfl)]
      unfold Oper.wp execOp
      generalize A.eval = ev at e0 ⊢
      go_simp
      exact hK _ _ (hG.first (by first | rfl | simp))
    · intro dn us w6 A hev hy hG hdn hdep K hK
      have d0 : dn 0 = true := allD_mem hdep (by decide)
      have e0 : A.eval (.tmp 13) = .bool true := by rw [hev]; exact hG.pre 0 d0
      rw [if_pos (by rfl)]
      unfold Oper.wp execOp
      generalize A.eval = ev at e0 ⊢
      go_simp
      exact hK _ _ (hG.first (by first | rfl | simp))
    · intro dn us w6 A hev hy hG hdn hdep K hK
      have d1 : dn 1 = true := allD_mem hdep (by decide)
      have e0 : A.eval (.tmp 0) = .pointer (some ⟨k.bw, 0, none⟩) := by rw [hev]; rfl
      have hg : us 1 = .bool true := hG.pre 1 d1
      rw [if_pos (by rw [hy]; show ((match us 1 with | .bool b => some b | _ => none) == some true) = true; rw [hg]; rfl)]
      unfold Oper.wp execOp
      generalize A.eval = ev at e0 ⊢
      go_simp
      exact hK _ _ (hG.first (by first | rfl | simp))
    · intro dn us w6 A hev hy hG hdn hdep K hK
      have d1 : dn 1 = true := allD_mem hdep (by decide)
      have d2 : dn 2 = true := allD_mem hdep (by decide)
      have e0 : A.eval (.tmp 15) = .pointer (some ⟨k.bw, 0, none⟩) := by rw [hev]; exact hG.pre 2 d2
      have hg : us 1 = .bool true := hG.pre 1 d1
      rw [if_pos (by rw [hy]; show ((match us 1 with | .bool b => some b | _ => none) == some true) = true; rw [hg]; rfl)]
      unfold Oper.wp execOp
      generalize A.eval = ev at e0 ⊢
      go_simp
      exact hK _ _ (hG.first (by first | rfl | simp))
    · intro dn us w6 A hev hy hG hdn hdep K hK
      have d1 : dn 1 = true := allD_mem hdep (by decide)
      have d3 : dn 3 = true := allD_mem hdep (by decide)
      have e0 : A.eval (.tmp 16) = .pointer (some ⟨k.bw, 0, none⟩) := by rw [hev]; exact hG.pre 3 d3
      have hg : us 1 = .bool true := hG.pre 1 d1
      rw [if_pos (by rw [hy]; show ((match us 1 with | .bool b => some b | _ => none) == some true) = true; rw [hg]; rfl)]
      unfold Oper.wp execOp
      generalize A.eval = ev at e0 ⊢
      go_simp
      exact hK _ _ (hG.first (by first | rfl | simp))
    · intro dn us w6 A hev hy hG hdn hdep K hK
      have d1 : dn 1 = true := allD_mem hdep (by decide)
      have d4 : dn 4 = true := allD_mem hdep (by decide)
      have e0 : A.eval (.tmp 17) = .pointer (some ⟨k.bw, 5, none⟩) := by rw [hev]; exact hG.pre 4 d4
      have cc0 : w6.cell? ⟨k.bw, 5, none⟩ = some (.pointer (some ⟨k.bc, 0, none⟩)) := by rw [hG.below.cell gl]; exact g5
      have hg : us 1 = .bool true := hG.pre 1 d1
      rw [if_pos (by rw [hy]; show ((match us 1 with | .bool b => some b | _ => none) == some true) = true; rw [hg]; rfl)]
      unfold Oper.wp execOp
      generalize A.eval = ev at e0 ⊢
      go_simp
      exact hK _ _ (hG.first (by first | rfl | simp))
    · intro dn us w6 A hev hy hG hdn hdep K hK
      have d1 : dn 1 = true := allD_mem hdep (by decide)
      have e0 : A.eval (.tmp 0) = .pointer (some ⟨k.bw, 0, none⟩) := by rw [hev]; rfl
      have hg : us 1 = .bool true := hG.pre 1 d1
      rw [if_pos (by rw [hy]; show ((match us 1 with | .bool b => some b | _ => none) == some true) = true; rw [hg]; rfl)]
      unfold Oper.wp execOp
      generalize A.eval = ev at e0 ⊢
      go_simp
      exact hK _ _ (hG.first (by first | rfl | simp))
    · intro dn us w6 A hev hy hG hdn hdep K hK
      have d1 : dn 1 = true := allD_mem hdep (by decide)
      have d6 : dn 6 = true := allD_mem hdep (by decide)
      have e0 : A.eval (.tmp 19) = .pointer (some ⟨k.bw, 0, none⟩) := by rw [hev]; exact hG.pre 6 d6
      have hg : us 1 = .bool true := hG.pre 1 d1
      rw [if_pos (by rw [hy]; show ((match us 1 with | .bool b => some b | _ => none) == some true) = true; rw [hg]; rfl)]
      unfold Oper.wp execOp
      generalize A.eval = ev at e0 ⊢
      go_simp
      exact hK _ _ (hG.first (by first | rfl | simp))
    · intro dn us w6 A hev hy hG hdn hdep K hK
      have d1 : dn 1 = true := allD_mem hdep (by decide)
      have d7 : dn 7 = true := allD_mem hdep (by decide)
      have e0 : A.eval (.tmp 20) = .pointer (some ⟨k.bw, 0, none⟩) := by rw [hev]; exact hG.pre 7 d7
      have hg : us 1 = .bool true := hG.pre 1 d1
      rw [if_pos (by rw [hy]; show ((match us 1 with | .bool b => some b | _ => none) == some true) = true; rw [hg]; rfl)]
      unfold Oper.wp execOp
      generalize A.eval = ev at e0 ⊢
      go_simp
      exact hK _ _ (hG.first (by first | rfl | simp))
    · intro dn us w6 A hev hy hG hdn hdep K hK
      have d1 : dn 1 = true := allD_mem hdep (by decide)
      have d8 : dn 8 = true := allD_mem hdep (by decide)
      have e0 : A.eval (.tmp 21) = .pointer (some ⟨k.bw, 0, none⟩) := by rw [hev]; exact hG.pre 8 d8
      have h6 := hG.below
      have cc0 : w6.cell? ⟨k.bw, 0, none⟩ = some (.int .i64 s.c.threads) := by rw [h6.cell gl]; exact g0
      have cc1 : w6.cell? ⟨k.bw, 1, none⟩ = some (.int .i64 s.c.buckets) := by rw [h6.cell gl]; exact g1
      have cc2 : w6.cell? ⟨k.bw, 2, none⟩ = some (.int .i64 s.c.inserts) := by rw [h6.cell gl]; exact g2
      have cc3 : w6.cell? ⟨k.bw, 3, none⟩ = some (.int .i64 s.c.fuel) := by rw [h6.cell gl]; exact g3
      have cc4 : w6.cell? ⟨k.bw, 4, none⟩ = some (.int .i64 s.c.calls) := by rw [h6.cell gl]; exact g4
      have hg : us 1 = .bool true := hG.pre 1 d1
      rw [if_pos (by rw [hy]; show ((match us 1 with | .bool b => some b | _ => none) == some true) = true; rw [hg]; rfl)]
      unfold Oper.wp execOp
      generalize A.eval = ev at e0 ⊢
      go_simp
      exact hK _ _ (hG.first (by first | rfl | simp))
    · intro dn us w6 A hev hy hG hdn hdep K hK
      have d1 : dn 1 = true := allD_mem hdep (by decide)
      have e0 : A.eval (.tmp 1) = .int .i64 n := by rw [hev]; rfl
      have hg : us 1 = .bool true := hG.pre 1 d1
      rw [if_pos (by rw [hy]; show ((match us 1 with | .bool b => some b | _ => none) == some true) = true; rw [hg]; rfl)]
      unfold Oper.wp execOp
      generalize A.eval = ev at e0 ⊢
      go_simp
      exact hK _ _ (hG.first (by first | rfl | simp))
    · intro dn us w6 A hev hy hG hdn hdep K hK
      have d1 : dn 1 = true := allD_mem hdep (by decide)
      have d9 : dn 9 = true := allD_mem hdep (by decide)
      have d10 : dn 10 = true := allD_mem hdep (by decide)
      have e0 : A.eval (.tmp 22) = s.c.val := by rw [hev]; exact hG.pre 9 d9
      have e1 : A.eval (.tmp 23) = .int .i64 n := by rw [hev]; exact hG.pre 10 d10
      have ef : A.eval (.func 101) = .func (.func 101) #[] #[] := by rw [hev]; rfl
      have hg : us 1 = .bool true := hG.pre 1 d1
      rw [if_pos (by rw [hy]; show ((match us 1 with | .bool b => some b | _ => none) == some true) = true; rw [hg]; rfl)]
      unfold Oper.wp execOp
      generalize A.eval = ev at e0 e1 ef ⊢
      go_simp
      refine (word_any s.c n _ HM.out).mono ?_
      rintro e wq ⟨rfl, hb⟩
      exact hK _ _ (hG.called rfl hb)
    · intro dn us w6 A hev hy hG hdn hdep K hK
      have d1 : dn 1 = true := allD_mem hdep (by decide)
      have d5 : dn 5 = true := allD_mem hdep (by decide)
      have d11 : dn 11 = true := allD_mem hdep (by decide)
      have e0 : A.eval (.tmp 18) = .pointer (some ⟨k.bc, 0, none⟩) := by rw [hev]; exact hG.pre 5 d5
      have e1 : A.eval (.tmp 24) = .int .i64 (s.wordAt n) := by rw [hev]; exact hG.pre 11 d11
      have ef : A.eval (.func 45) = .func (.func 45) #[] #[] := by rw [hev]; rfl
      have hg : us 1 = .bool true := hG.pre 1 d1
      rw [if_pos (by rw [hy]; show ((match us 1 with | .bool b => some b | _ => none) == some true) = true; rw [hg]; rfl)]
      unfold Oper.wp execOp
      generalize A.eval = ev at e0 e1 ef ⊢
      go_simp
      refine (peek_any (s.wordAt n) _ (HB.out.cells.below hG.below)).mono ?_
      rintro e wq ⟨rfl, rfl⟩
      exact hK _ _ (hG.first rfl)
    · intro dn us w6 A hev hy hG hdn hdep K hK
      have d1 : dn 1 = true := allD_mem hdep (by decide)
      have d12 : dn 12 = true := allD_mem hdep (by decide)
      have e0 : A.eval (.tmp 25) = .int .u64 (s.peek (s.wordAt n)) := by rw [hev]; exact hG.pre 12 d12
      have e1 : A.eval (.const (.int .u64 1)) = .int .u64 1 := by rw [hev]; rfl
      have hg : us 1 = .bool true := hG.pre 1 d1
      rw [if_pos (by rw [hy]; show ((match us 1 with | .bool b => some b | _ => none) == some true) = true; rw [hg]; rfl)]
      unfold Oper.wp execOp
      generalize A.eval = ev at e0 e1 ⊢
      go_simp
      exact hK _ _ (hG.first (by first | rfl | simp))
    · intro dn us w6 A hev hy hG hdn hdep K hK
      have d1 : dn 1 = true := allD_mem hdep (by decide)
      have d13 : dn 13 = true := allD_mem hdep (by decide)
      have e0 : A.eval (.tmp 14) = .bool true := by rw [hev]; exact hG.pre 1 d1
      have e1 : A.eval (.tmp 26) = .bool (s.peek (s.wordAt n) == 1) := by rw [hev]; exact hG.pre 13 d13
      have e2 : A.eval (.const (.bool false)) = .bool false := by rw [hev]; rfl
      rw [if_pos (by rfl)]
      unfold Oper.wp execOp
      generalize A.eval = ev at e0 e1 e2 ⊢
      go_simp
      exact hK _ _ (hG.first (by first | rfl | simp))
    · intro dn us w6 A hev hy hG hdn hdep K hK
      have d14 : dn 14 = true := allD_mem hdep (by decide)
      have e0 : A.eval (.tmp 27) = .bool (s.peek (s.wordAt n) == 1) := by rw [hev]; exact hG.pre 14 d14
      rw [if_pos (by rfl)]
      unfold Oper.wp execOp
      generalize A.eval = ev at e0 ⊢
      go_simp
      exact hK _ _ (hG.first (by first | rfl | simp))
    intro dn us w6 hG hall
    have u15 : us 15 = .bool (s.peek (s.wordAt n) == 1) := hG.pre 15 (hall 15 (by decide))
    have hb6 := hG.below
    simp only [fillA, fillT, Nat.reduceAdd, List.setIfInBounds_toArray, List.set_cons_zero, List.set_cons_succ, u15]
    clear hG hall u15
    go_wp2_with fail
    go_ret
    exact ⟨rfl, D2.trans (hb6.mono D2.size)⟩
  | false =>
    have hq : s.isIn n = false := by unfold St.isIn; rw [hi]; rfl
    rw [hq]
    have hcon := lcall_any n w h
    rw [hi] at hcon
    have HCN := Lib.hid hcon
    clear hcon h hi hq
    go_enter Tryz.func112, Tryz.ntmps112
    go_wp2_with (first
      | (refine wpl_st rfl 28 _ _ rfl (s.call n).c rfl _ rfl (At.new w1 _ _) (by kernel_rfl) rfl rfl rfl ?_; intro w2 A6 O6)
      | (go_at_call 113; refine HCN.out.mono ?_; rintro e w1 ⟨rfl, hb1⟩))
    have D12 : Below w1.heap.size w1 w2 := ((Below.refl _ w1).alloc (Nat.le_refl _) _).trans (O6.below (by simp) fun j hj e => by have e' : j = w1.heap.size := e; omega)
    have D2 := hb1.trans (D12.mono hb1.size)
    have HB := Lib.hid (H.out.below D2)
    obtain ⟨⟨g0, g1, g2, g3, g4⟩, g5, g6, gl⟩ := HB.out.wfacts
    refine wp_region_J (l := [_, _, _, _, _, _, _, _, _, _, _, _, _, _, _, _]) (QG (fun j v => match j with | 0 => v = .bool false | 1 => v = .bool false | 14 => v = .bool false | 15 => v = .bool false | _ => True) w2) (by kernel_rfl) (by kernel_rfl) (fun us => QG.start us) ⟨?_, ?_, ?_, ?_, ?_, ?_, ?_, ?_, ?_, ?_, ?_, ?_, ?_, ?_, ?_, ?_, trivial⟩ ?_
    · intro dn us w6 A hev hy hG hdn hdep K hK
      have e0 : A.eval (.tmp 6) = .bool false := by rw [hev]; rfl
      rw [if_pos (by rfl)]
      unfold Oper.wp execOp
      generalize A.eval = ev at e0 ⊢
      go_simp
      exact hK _ _ (hG.first (by first | rfl | simp))
    · intro dn us w6 A hev hy hG hdn hdep K hK
      have d0 : dn 0 = true := allD_mem hdep (by decide)
      have e0 : A.eval (.tmp 13) = .bool false := by rw [hev]; exact hG.pre 0 d0
      rw [if_pos (by rfl)]
      unfold Oper.wp execOp
      generalize A.eval = ev at e0 ⊢
      go_simp
      exact hK _ _ (hG.first (by first | rfl | simp))
    · intro dn us w6 A hev hy hG hdn hdep K hK
      have d1 : dn 1 = true := allD_mem hdep (by decide)
      have hg : us 1 = .bool false := hG.pre 1 d1
      rw [if_neg (by rw [hy]; show ¬ ((match us 1 with | .bool b => some b | _ => none) == some true) = true; rw [hg]; decide)]
      exact hK _ _ (hG.first trivial)
    · intro dn us w6 A hev hy hG hdn hdep K hK
      have d1 : dn 1 = true := allD_mem hdep (by decide)
      have hg : us 1 = .bool false := hG.pre 1 d1
      rw [if_neg (by rw [hy]; show ¬ ((match us 1 with | .bool b => some b | _ => none) == some true) = true; rw [hg]; decide)]
      exact hK _ _ (hG.first trivial)
    · intro dn us w6 A hev hy hG hdn hdep K hK
      have d1 : dn 1 = true := allD_mem hdep (by decide)
      have hg : us 1 = .bool false := hG.pre 1 d1
      rw [if_neg (by rw [hy]; show ¬ ((match us 1 with | .bool b => some b | _ => none) == some true) = true; rw [hg]; decide)]
      exact hK _ _ (hG.first trivial)
    · intro dn us w6 A hev hy hG hdn hdep K hK
      have d1 : dn 1 = true := allD_mem hdep (by decide)
      have cc0 : w6.cell? ⟨k.bw, 5, none⟩ = some (.pointer (some ⟨k.bc, 0, none⟩)) := by rw [hG.below.cell gl]; exact g5
      have hg : us 1 = .bool false := hG.pre 1 d1
      rw [if_neg (by rw [hy]; show ¬ ((match us 1 with | .bool b => some b | _ => none) == some true) = true; rw [hg]; decide)]
      exact hK _ _ (hG.first trivial)
    · intro dn us w6 A hev hy hG hdn hdep K hK
      have d1 : dn 1 = true := allD_mem hdep (by decide)
      have hg : us 1 = .bool false := hG.pre 1 d1
      rw [if_neg (by rw [hy]; show ¬ ((match us 1 with | .bool b => some b | _ => none) == some true) = true; rw [hg]; decide)]
      exact hK _ _ (hG.first trivial)
    · intro dn us w6 A hev hy hG hdn hdep K hK
      have d1 : dn 1 = true := allD_mem hdep (by decide)
      have hg : us 1 = .bool false := hG.pre 1 d1
      rw [if_neg (by rw [hy]; show ¬ ((match us 1 with | .bool b => some b | _ => none) == some true) = true; rw [hg]; decide)]
      exact hK _ _ (hG.first trivial)
    · intro dn us w6 A hev hy hG hdn hdep K hK
      have d1 : dn 1 = true := allD_mem hdep (by decide)
      have hg : us 1 = .bool false := hG.pre 1 d1
      rw [if_neg (by rw [hy]; show ¬ ((match us 1 with | .bool b => some b | _ => none) == some true) = true; rw [hg]; decide)]
      exact hK _ _ (hG.first trivial)
    · intro dn us w6 A hev hy hG hdn hdep K hK
      have d1 : dn 1 = true := allD_mem hdep (by decide)
      have h6 := hG.below
      have cc0 : w6.cell? ⟨k.bw, 0, none⟩ = some (.int .i64 s.c.threads) := by rw [h6.cell gl]; exact g0
      have cc1 : w6.cell? ⟨k.bw, 1, none⟩ = some (.int .i64 s.c.buckets) := by rw [h6.cell gl]; exact g1
      have cc2 : w6.cell? ⟨k.bw, 2, none⟩ = some (.int .i64 s.c.inserts) := by rw [h6.cell gl]; exact g2
      have cc3 : w6.cell? ⟨k.bw, 3, none⟩ = some (.int .i64 s.c.fuel) := by rw [h6.cell gl]; exact g3
      have cc4 : w6.cell? ⟨k.bw, 4, none⟩ = some (.int .i64 s.c.calls) := by rw [h6.cell gl]; exact g4
      have hg : us 1 = .bool false := hG.pre 1 d1
      rw [if_neg (by rw [hy]; show ¬ ((match us 1 with | .bool b => some b | _ => none) == some true) = true; rw [hg]; decide)]
      exact hK _ _ (hG.first trivial)
    · intro dn us w6 A hev hy hG hdn hdep K hK
      have d1 : dn 1 = true := allD_mem hdep (by decide)
      have hg : us 1 = .bool false := hG.pre 1 d1
      rw [if_neg (by rw [hy]; show ¬ ((match us 1 with | .bool b => some b | _ => none) == some true) = true; rw [hg]; decide)]
      exact hK _ _ (hG.first trivial)
    · intro dn us w6 A hev hy hG hdn hdep K hK
      have d1 : dn 1 = true := allD_mem hdep (by decide)
      have ef : A.eval (.func 101) = .func (.func 101) #[] #[] := by rw [hev]; rfl
      have hg : us 1 = .bool false := hG.pre 1 d1
      rw [if_neg (by rw [hy]; show ¬ ((match us 1 with | .bool b => some b | _ => none) == some true) = true; rw [hg]; decide)]
      exact hK _ _ (hG.first trivial)
    · intro dn us w6 A hev hy hG hdn hdep K hK
      have d1 : dn 1 = true := allD_mem hdep (by decide)
      have ef : A.eval (.func 45) = .func (.func 45) #[] #[] := by rw [hev]; rfl
      have hg : us 1 = .bool false := hG.pre 1 d1
      rw [if_neg (by rw [hy]; show ¬ ((match us 1 with | .bool b => some b | _ => none) == some true) = true; rw [hg]; decide)]
      exact hK _ _ (hG.first trivial)
    · intro dn us w6 A hev hy hG hdn hdep K hK
      have d1 : dn 1 = true := allD_mem hdep (by decide)
      have e0 : A.eval (.const (.int .u64 1)) = .int .u64 1 := by rw [hev]; rfl
      have hg : us 1 = .bool false := hG.pre 1 d1
      rw [if_neg (by rw [hy]; show ¬ ((match us 1 with | .bool b => some b | _ => none) == some true) = true; rw [hg]; decide)]
      exact hK _ _ (hG.first trivial)
    · intro dn us w6 A hev hy hG hdn hdep K hK
      have d1 : dn 1 = true := allD_mem hdep (by decide)
      have e0 : A.eval (.tmp 14) = .bool false := by rw [hev]; exact hG.pre 1 d1
      have e1 : A.eval (.const (.bool false)) = .bool false := by rw [hev]; rfl
      rw [if_pos (by rfl)]
      unfold Oper.wp execOp
      generalize A.eval = ev at e0 e1 ⊢
      go_simp
      exact hK _ _ (hG.first (by first | rfl | simp))
    · intro dn us w6 A hev hy hG hdn hdep K hK
      have d14 : dn 14 = true := allD_mem hdep (by decide)
      have e0 : A.eval (.tmp 27) = .bool false := by rw [hev]; exact hG.pre 14 d14
      rw [if_pos (by rfl)]
      unfold Oper.wp execOp
      generalize A.eval = ev at e0 ⊢
      go_simp
      exact hK _ _ (hG.first (by first | rfl | simp))
    intro dn us w6 hG hall
    have u15 : us 15 = .bool false := hG.pre 15 (hall 15 (by decide))
    have hb6 := hG.below
    simp only [fillA, fillT, Nat.reduceAdd, List.setIfInBounds_toArray, List.set_cons_zero, List.set_cons_succ, u15]
    clear hG hall u15
    go_wp2_with fail
    go_ret
    exact ⟨rfl, D2.trans (hb6.mono D2.size)⟩
end Go.Proofs.YtccmjljlfgbicaaGreat

/- Contract of look.Pairs, where there is one bucket. -/
namespace Go.Proofs.YtccmjljlfgbicaaGreat
open Go.ChangeShapes Go.WideShapes Go.ChangeAt Go.RowKit

/-- What was met behind some nodes. -/
def Vw.onceRun (v : Vw) : List Int → List Int → List Int
  | once, [] => once
  | once, n :: l => if v.inn (v.op n) ∧ v.op n ∉ once then v.onceRun (once ++ [v.op n]) l else v.onceRun once l
theorem once_snoc (v : Vw) (n : Int) : ∀ (A once : List Int), v.onceRun once (A ++ [n]) = if v.inn (v.op n) ∧ v.op n ∉ v.onceRun once A then v.onceRun once A ++ [v.op n] else v.onceRun once A
  | [], once => rfl
  | a :: A, once => by
    simp only [List.cons_append, Vw.onceRun]
    split
    · exact once_snoc v n A _
    · exact once_snoc v n A _
theorem prs_snoc (v : Vw) (vl : Int → Int) (n : Int) : ∀ (A once : List Int), v.prsRun vl once (A ++ [n]) = if v.inn (v.op n) ∧ v.op n ∉ v.onceRun once A then v.prsRun vl once A ++ [(v.key n, vl (v.op n))] else v.prsRun vl once A
  | [], once => by
    show (if v.inn (v.op n) ∧ v.op n ∉ once then (v.key n, vl (v.op n)) :: [] else []) = if v.inn (v.op n) ∧ v.op n ∉ once then [] ++ [(v.key n, vl (v.op n))] else []
    split <;> rfl
  | a :: A, once => by
    simp only [List.cons_append, Vw.onceRun, Vw.prsRun]
    split
    · rw [prs_snoc v vl n A]
      split <;> rfl
    · exact prs_snoc v vl n A _
theorem prs_len (v : Vw) (vl : Int → Int) : ∀ (A once : List Int), (v.prsRun vl once A).length ≤ A.length
  | [], once => Nat.le_refl _
  | a :: A, once => by
    simp only [Vw.prsRun]
    split
    · have := prs_len v vl A (once ++ [v.op a]); simp; omega
    · have := prs_len v vl A once; simp; omega

def St.vl (s : St) (o : Int) : Int := (s.call o).val
/-- The pairs that a world has. -/
def St.prs (s : St) : List (Int × Int) := isort (s.vw.prsRun s.vl [] (s.chain 0))
theorem insertOf_iff (s : St) (n : Int) : s.insertOf n = true ↔ s.vw.kd n = 1 := by
  unfold St.insertOf St.vw
  show _ ↔ (s.call n).kind = 1
  unfold St.call
  cases h : s.callOf n with
  | none => simp
  | some c => simp
theorem isIn_iff (s : St) (n : Int) : s.isIn n = true ↔ s.vw.inn n := by
  unfold St.isIn
  rw [Bool.and_eq_true, insertOf_iff, beq_iff_eq]
  exact Iff.rfl

theorem isort_len (l : List (Int × Int)) : (isort l).length = l.length := by
  have := (isort_run l l.length (Nat.le_refl _)).1
  rwa [List.take_length] at this

set_option maxRecDepth 100000 in
set_option maxHeartbeats 1000000 in
theorem stable_nil (w : World) :
    Calls Tryz.prog 114 #[.slice none 0 0, .func (.func 115) #[] #[]] w fun e w' => e = .returned (.tuple #[]) ∧ w = w' := by
  have hin : Calls Tryz.prog 197 #[.slice none 0 0, .int .i64 0, .int .i64 0, .func (.func 115) #[] #[]] w fun e w' => e = .returned (.tuple #[]) ∧ w = w' := by
    go_enter Tryz.func197, Tryz.ntmps197
    go_wp2_with fail
    refine wp_loop_rounds 1 ?_
    rw [rounds_succ]
    go_wp2_with fail
    go_end0
    exact ⟨rfl, rfl⟩
  have hst : Calls Tryz.prog 177 #[.slice none 0 0, .int .i64 0, .func (.func 115) #[] #[]] w fun e w' => e = .returned (.tuple #[]) ∧ w = w' := by
    go_enter Tryz.func177, Tryz.ntmps177
    go_wp2_with fail
    refine wp_loop_rounds 1 ?_
    rw [rounds_succ]
    go_wp2_with (go_at_call 197; refine hin.mono ?_; rintro e w1 ⟨rfl, rfl⟩)
    refine wp_loop_rounds 1 ?_
    rw [rounds_succ]
    go_wp2_with fail
    go_end0
    exact ⟨rfl, rfl⟩
  go_enter Tryz.func114, Tryz.ntmps114
  go_wp2_with (go_at_call 177; refine hst.mono ?_; rintro e w1 ⟨rfl, rfl⟩)
  go_end0
  exact ⟨rfl, rfl⟩
/-- A row of one's own is sorted. -/
theorem sort_row (l : List (Int × Int)) (v : Value) (base : Nat) (w : World) (hR : w.ownsRow base 103 2 v l.length (pairsV l)) (hl : l.length ≤ 19) :
    Calls Tryz.prog 114 #[v, .func (.func 115) #[] #[]] w fun e w' => e = .returned (.tuple #[]) ∧ w'.ownsRow base 103 2 v l.length (pairsV (isort l)) ∧ Only (fun j => base ≤ j) w w' := by
  rcases hR.2 with ⟨rfl, hn⟩ | ⟨g, cap, cur, rfl, h1, h2, h3, h4, h5, h6⟩
  · have : l = [] := List.eq_nil_of_length_eq_zero hn
    subst this
    refine (stable_nil w).mono ?_
    rintro e w' ⟨rfl, rfl⟩
    exact ⟨rfl, hR, Only.refl _ _⟩
  · have hc : cur = (pairsV l ++ cur.toList.drop (l.length * 2)).toArray := by rw [← h6, List.take_append_drop]
    have hA : At w g 103 (pairsV l ++ cur.toList.drop (l.length * 2)).toArray := by rw [← hc]; exact h2
    refine (stable_any l g cap _ w hA hl).mono ?_
    rintro e w' ⟨rfl, hA', hO'⟩
    refine ⟨rfl, ⟨by rw [pairsV_len, isort_len], .inr ⟨g, cap, _, rfl, h1, hA', h3, h4, ?_, ?_⟩⟩, hO'.mono fun i _ e => by subst e; exact h1⟩
    · have := congrArg Array.size hc
      rw [h5] at this
      simp only [List.size_toArray, List.length_append, pairsV_len] at this ⊢
      rw [isort_len]; omega
    · have : (pairsV (isort l)).length = l.length * 2 := by rw [pairsV_len, isort_len]
      simp only []
      rw [List.take_left' this]

theorem cell_only {S : Nat → Prop} {w w' : World} {p : Addr} {u : Value} (h : w.cell? p = some u) (ho : Only S w w') (hs : ¬ S p.block) : w'.cell? p = some u := by
  rw [World.cell?_of_block (ho.block p.block (World.block_lt_of_cell? w _ h) hs)]; exact h

theorem ownsRow_onlyB {w w' : World} {base : Nat} {e : TypeId} {size : Nat} {v : Value} {n : Nat} {xs : List Value} {S : Nat → Prop} (h : w.ownsRow base e size v n xs) (ho : Only S w w') (hS : ∀ i, base ≤ i → ¬ S i) : w'.ownsRow base e size v n xs := by
  refine ⟨h.1, h.2.imp id ?_⟩
  rintro ⟨g, cap, cur, h1, h2, h3, h4⟩
  have hg : g < w.heap.size := by
    rcases Nat.lt_or_ge g w.heap.size with hlt | hge
    · exact hlt
    · rw [Array.getElem?_eq_none hge] at h3; cases h3
  exact ⟨g, cap, cur, h1, h2, (ho.block g hg (hS g h2)).trans h3, h4⟩
theorem heap_only {w w' : World} {S : Nat → Prop} {g : Nat} {o : Obj} (h : w.heap[g]? = some o) (ho : Only S w w') (hS : ¬ S g) : w'.heap[g]? = some o := by
  have hg : g < w.heap.size := by
    rcases Nat.lt_or_ge g w.heap.size with hlt | hge
    · exact hlt
    · rw [Array.getElem?_eq_none hge] at h; cases h
  exact (ho.block g hg hS).trans h

/-- What is known while the pairs are gathered. -/
structure PInv (k : Blks) (w : World) (cw lb lm : Nat) (L : Loop) (O : List Int) (R : List (Int × Int)) (w' : World) : Prop where
  loop : LoopAt w' lb L
  mark : w'.heap[lm]? = some (.deferred (some []))
  p1 : At w' w.heap.size 32 #[.pointer (some ⟨k.bw, 0, none⟩)]
  out : ∃ v, At w' (w.heap.size + 1) 49 #[v] ∧ w'.ownsRow (lb + 1) 103 2 v R.length (pairsV R)
  set : SetAt w' (w.heap.size + 1 + 1) .i64 O
  mp : At w' (w.heap.size + 1 + 1 + 1) 169 #[.map (some (w.heap.size + 1 + 1))]
  cw : w'.cell? ⟨cw, 0, none⟩ = some (.pointer (some ⟨k.bw, 0, none⟩))
  below : Below w.heap.size w w'
section
variable {k : Blks} {w : World} {cw lb lm : Nat} {L L' : Loop} {O O' : List Int} {R R' : List (Int × Int)} {w1 w2 : World}
theorem PInv.still (h : PInv k w cw lb lm L O R w1) (hb : Below w1.heap.size w1 w2) : PInv k w cw lb lm L O R w2 := by
  obtain ⟨v, h1, h2⟩ := h.out
  exact ⟨heap_below h.loop hb, heap_below h.mark hb, h.p1.below' hb, ⟨v, h1.below' hb, ownsRow_below h2 hb rfl⟩, h.set.below hb, h.mp.below' hb, by rw [hb.cell (World.block_lt_of_cell? w1 _ h.cw)]; exact h.cw, h.below.trans (hb.mono h.below.size)⟩
theorem PInv.put (h : PInv k w cw lb lm L O R w1) (hlb : w.heap.size + 1 + 1 + 1 < lb) (hlm : lm < lb) (hcw : cw < lb) : PInv k w cw lb lm L' O R (putLoop w1 lb L') := by
  obtain ⟨v, h1, h2⟩ := h.out
  refine ⟨putLoop_at h.loop.lt _, (putLoop_heap _ _ _ _ (by omega)).trans h.mark, (putLoop_heap _ _ _ _ (by omega)).trans h.p1, ⟨v, (putLoop_heap _ _ _ _ (by omega)).trans h1, ownsRow_put h2 (Nat.lt_succ_self _) _⟩, (putLoop_heap _ _ _ _ (by omega)).trans h.set, (putLoop_heap _ _ _ _ (by omega)).trans h.mp, ?_, putLoop_below h.below (by omega) _⟩
  rw [World.cell?_of_block (putLoop_heap w1 lb L' cw (by omega))]; exact h.cw
/-- The set grows. -/
theorem PInv.grow (h : PInv k w cw lb lm L O R w1) (hlb : w.heap.size + 1 + 1 + 1 < lb) (hlm : w.heap.size + 1 + 1 + 1 < lm) (hcw : w.heap.size + 1 + 1 + 1 < cw) (ho : Only (fun j => j = w.heap.size + 1 + 1) w1 w2) (hM : SetAt w2 (w.heap.size + 1 + 1) .i64 O') : PInv k w cw lb lm L O' R w2 := by
  obtain ⟨v, h1, h2⟩ := h.out
  exact ⟨heap_only h.loop ho (by show ¬ _ = _; omega), heap_only h.mark ho (by show ¬ _ = _; omega), h.p1.only ho (by show ¬ _ = _; omega), ⟨v, h1.only ho (by show ¬ _ = _; omega), ownsRow_onlyB h2 ho fun i hi e => by have e' : i = w.heap.size + 1 + 1 := e; omega⟩, hM, h.mp.only ho (by show ¬ _ = _; omega), cell_only h.cw ho (by show ¬ cw = w.heap.size + 1 + 1; omega), h.below.trans (ho.below h.below.size fun i hi e => by have e' : i = w.heap.size + 1 + 1 := e; omega)⟩
end
end Go.Proofs.YtccmjljlfgbicaaGreat

/- Contract of look.Pairs, where there is one bucket. Printed by lkq.py. -/
namespace Go.Proofs.YtccmjljlfgbicaaGreat
open Go.ChangeShapes Go.WideShapes Go.ChangeAt Go.RowKit

theorem pairinfo : (Tryz.prog.info? 103).map (fun i => (i.zero, i.size, i.bytes)) = some (some (.agg #[.int .u64 0, .int .u64 0]), 2, 16) := by kernel_rfl
theorem zbool (w : World) : (zeroValue 4).run Tryz.prog w = .ok (.bool false) w := by kernel_rfl

set_option maxRecDepth 100000 in
set_option maxHeartbeats 4000000 in
theorem lpairs_any {k : Blks} {s : St} (w : World) (h : Holds k s w) (hb : s.c.buckets = 1) (hlen : (s.chain 0).length ≤ 19) :
    Calls Tryz.prog 48 #[.pointer (some ⟨k.bw, 0, none⟩)] w fun e w' => ∃ v, e = .returned v ∧ w'.ownsRow w.heap.size 103 2 v s.prs.length (pairsV s.prs) ∧ Below w.heap.size w w' := by
  obtain ⟨⟨-, g1, -, -, -⟩, -, -, gl⟩ := h.wfacts
  rw [hb] at g1
  have H := Lib.hid h
  have A1 := (At.new w 32 #[.pointer (some ⟨k.bw, 0, none⟩)]).alloc (.cells #[.slice none 0 0] 49)
  have A3 := At.new1 w (.cells #[.pointer (some ⟨k.bw, 0, none⟩)] 32) 49 #[.slice none 0 0]
  have D2 := below_twice w (.cells #[.pointer (some ⟨k.bw, 0, none⟩)] 32) (.cells #[.slice none 0 0] 49)
  have z2 : ((w.alloc (.cells #[.pointer (some ⟨k.bw, 0, none⟩)] 32)).alloc (.cells #[.slice none 0 0] 49)).heap.size = w.heap.size + 1 + 1 := by simp
  clear h hb
  refine callsC_of_wp Tryz.func48 rfl ?_
  simp only [Tryz.ntmps48, List.size_toArray, List.length_cons, List.length_nil, Nat.reduceAdd, Nat.reduceSub, Array.replicate_succ, Array.replicate_zero, List.push_toArray, List.append_toArray, List.nil_append, List.cons_append]
  go_upto_region 2 with fail
  generalize (w.alloc (.cells #[.pointer (some ⟨k.bw, 0, none⟩)] 32)).alloc (.cells #[.slice none 0 0] 49) = w2 at *
  have c1 : w2.cell? ⟨w.heap.size, 0, none⟩ = some (.pointer (some ⟨k.bw, 0, none⟩)) := A1.cell 0
  go_upto_region 5 with (refine wpl_op (by rfl) (op_makeSet 169 rfl .i64 fun hM0 => ?_))
  have A4 := At.new (w2.alloc (.map #[] 0)) 169 #[.map (some (w.heap.size + 1 + 1))]
  have D24 : Below w2.heap.size w2 ((w2.alloc (.map #[] 0)).alloc (.cells #[.map (some (w.heap.size + 1 + 1))] 169)) := below_twice w2 _ _
  have BM : SetAt ((w2.alloc (.map #[] 0)).alloc (.cells #[.map (some (w.heap.size + 1 + 1))] 169)) w2.heap.size .i64 [] := hM0.below ((Below.refl _ _).alloc (Nat.le_refl _) _)
  rw [World.size_alloc] at A4
  generalize (w2.alloc (.map #[] 0)).alloc (.cells #[.map (some (w.heap.size + 1 + 1))] 169) = w4 at *
  have B1 := A1.below' D24
  have B3 := A3.below' D24
  have D4 := D2.trans (D24.mono D2.size)
  have l4 := A4.lt
  rw [z2] at A4 BM l4
  have H4 := Lib.hid (H.out.below D4)
  have c1 : w4.cell? ⟨w.heap.size, 0, none⟩ = some (.pointer (some ⟨k.bw, 0, none⟩)) := B1.cell 0
  have g1 : w4.cell? ⟨k.bw, 1, none⟩ = some (.int .i64 1) := by rw [D4.cell gl]; exact g1
  have gl4 : k.bw < w4.heap.size := Nat.lt_of_lt_of_le gl D4.size
  clear A1 A3 D2 hM0 D24
  go_wp2_with fail
  refine wp_loop_rounds 2 ?_
  rw [rounds_succ]
  go_wp2_with (go_at_call 96; refine (nodes_any k 0 _).mono ?_; rintro e w5 ⟨rfl, q0, q1, hb5⟩)
  refine wp_rangeFunc_new (g := 166) rfl Tryz.func166 rfl rfl ?_
  intro fn W1 L hL f1 f2 f3
  obtain ⟨i0, hi, hz0, hz1, hz2⟩ := info_parts pairinfo
  have HL := Lib.hid hL
  have hs : L.state = .ready := by rw [hL]; rfl
  have hp : L.pending = none := by rw [hL]; rfl
  have hpa : L.params = #[25] := by rw [hL]; rfl
  clear hL
  have z45 := hb5.size
  have zcw := World.block_lt_of_cell? w5 _ q0
  have zcb := World.block_lt_of_cell? w5 _ q1
  have hb4 : Below w4.heap.size w4 W1 := hb5.trans (f3.mono hb5.size)
  refine (nodes1_any (k := k) (s := s) 0 w4.heap.size (w4.heap.size + 1) (w5.heap.size + 1) W1 (fun j => PInv k w w4.heap.size (w5.heap.size + 1) w5.heap.size L (s.vw.onceRun [] ((s.chain 0).take j)) (s.vw.prsRun s.vl [] ((s.chain 0).take j))) (fun _ => False) ?hI ?hB ?hY ?h0 ?q1).mono ?_
  case h0 => exact ⟨f1, f2, B1.below' hb4, ⟨.slice none 0 0, B3.below' hb4, World.ownsRow_nil _ _ _ _⟩, BM.below hb4, A4.below' hb4, by rw [f3.cell zcw]; exact q0, D4.trans (hb4.mono D4.size)⟩
  case hI => exact fun j w' hC => ⟨H.out.below hC.below, hC.cw⟩
  case hB => exact fun j w1 w2 h1 h2 => h1.still h2
  case q1 => rw [f3.cell zcb]; exact q1
  case hY =>
    intro j n w' hn hC
    have hpi := hC.put (L' := { L with state := .busy }) (by omega) (by omega) (by omega)
    refine yieldsTo_one hC.loop hpa ?_
    have ea := congrArg Loop.assign HL.out
    have eb := congrArg Loop.body HL.out
    have et := congrArg Loop.tmps HL.out
    rw [ea, eb, et]
    clear ea eb et
    simp only [newLoop, List.setIfInBounds_toArray, List.set_cons_succ, List.set_cons_zero]
    refine wpR_region_lit rfl ?_
    go_wp2_with fail
    refine ⟨rfl, L, hC.loop, hs, ?_⟩
    have hj : j < (s.chain 0).length := (List.getElem?_eq_some_iff.1 hn).1
    have HT := Lib.hid (show (s.chain 0).take (j + 1) = (s.chain 0).take j ++ [n] by rw [List.take_add_one, hn]; rfl)
    have hsn := once_snoc s.vw n ((s.chain 0).take j) []
    have hpn := prs_snoc s.vw s.vl n ((s.chain 0).take j) []
    have HPL := Lib.hid (prs_len s.vw s.vl ((s.chain 0).take j) [])
    have HTL := Lib.hid (show ((s.chain 0).take j).length = j by rw [List.length_take]; omega)
    rw [← HT.out] at hsn hpn
    generalize putLoop w' (w5.heap.size + 1) { L with state := .busy } = W2 at *
    have HP := Lib.hid hpi
    have HH := Lib.hid (H.out.below hpi.below)
    have hin := isIn_iff s (s.vw.op n)
    have hop : s.vw.op n = s.carried n := rfl
    rw [hop] at hsn hpn hin
    have c0 : W2.cell? ⟨w.heap.size, 0, none⟩ = some (.pointer (some ⟨k.bw, 0, none⟩)) := hpi.p1.cell 0
    have cm : W2.cell? ⟨w.heap.size + 1 + 1 + 1, 0, none⟩ = some (.map (some (w.heap.size + 1 + 1))) := hpi.mp.cell 0
    obtain ⟨-, g5, g6, glw⟩ := HH.out.wfacts
    clear hpi hC c1 q0 q1 zcb
    refine wpR_block ?_
    by_cases hnew : s.vw.inn (s.carried n) ∧ s.carried n ∉ s.vw.onceRun [] ((s.chain 0).take j)
    · rw [if_pos hnew] at hsn hpn
      have hi1 : s.isIn (s.carried n) = true := hin.2 hnew.1
      have hmem : decide (s.carried n ∈ s.vw.onceRun [] ((s.chain 0).take j)) = false := decide_eq_false hnew.2
      have HI := Lib.hid hi1
      have HME := Lib.hid hmem
      have HSN := Lib.hid hsn
      have HPN := Lib.hid hpn
      have HNEW := Lib.hid hnew
      clear hi1 hmem hsn hpn hnew hin hop
      refine wpR_seq_k fun K1 hK1 => ?_
      refine wpR_region_lit rfl ?_
      go_wp2_with (go_at_call 38; refine (carried_any n _ HH.out).mono ?_; rintro e w3 ⟨rfl, rfl⟩)
      refine ⟨rfl, hK1 _ _ ?_⟩
      refine wpR_seq_k fun K2 hK2 => ?_
      refine wpR_region_lit rfl ?_
      go_wp2_with (first
        | (refine wpl_op (by rfl) (op_has 169 _ _ rfl Tryz.underlying169 Tryz.underlying3 zbool (w.heap.size + 1 + 1) rfl _ rfl P6.out.set ?_); rw [HME.out])
        | (go_at_call 112; refine (lin_any (s.carried n) _ HH.out).mono ?_; rw [HI.out]; rintro e w6 ⟨rfl, hb6⟩
           have P6 := Lib.hid (HP.out.still hb6)
           have cm6 := P6.out.mp.cell 0
           have c06 := P6.out.p1.cell 0))
      refine ⟨rfl, hK2 _ _ ?_⟩
      refine wpR_cond (t := true) rfl ?_
      refine wpR_seq_k fun K3 hK3 => ?_
      refine wpR_region_lit rfl ?_
      go_wp2_with (refine wpl_op (by rfl) (op_add 169 _ _ _ rfl Tryz.underlying169 Tryz.underlying3 (w.heap.size + 1 + 1) rfl _ rfl rfl P6.out.set fun w7 hM7 O7 => ?_))
      have hadd : addS (s.vw.onceRun [] ((s.chain 0).take j)) (s.carried n) = s.vw.onceRun [] ((s.chain 0).take (j + 1)) := by rw [HSN.out]; exact if_neg HNEW.out.2
      rw [hadd] at hM7
      have P7 := Lib.hid (P6.out.grow (by omega) (by omega) (by omega) O7 hM7)
      have c07 := P7.out.p1.cell 0
      clear hM7 O7 hadd
      refine ⟨rfl, hK3 _ _ ?_⟩
      refine wpR_seq_k fun K4 hK4 => ?_
      refine wpR_region_lit rfl ?_
      go_wp2_with (first
        | (refine wpl_st rfl 28 _ _ rfl (s.call (s.carried n)).c rfl _ rfl (At.new w8 _ _) (by kernel_rfl) rfl rfl rfl ?_; intro w9 A9 O9)
        | (go_at_call 113; refine (lcall_any (s.carried n) _ (H.out.below P7.out.below)).mono ?_; rintro e w8 ⟨rfl, hb8⟩))
      refine ⟨rfl, hK4 _ _ ?_⟩
      have P9 := (P7.out.still hb8).still (((Below.refl _ w8).alloc (Nat.le_refl _) _).trans (O9.below (by simp) fun j hj e => by have e' : j = w8.heap.size := e; omega))
      have HP9 := Lib.hid P9
      obtain ⟨v, hA, hR⟩ := P9.out
      have c09 : w9.cell? ⟨w.heap.size + 1, 0, none⟩ = some v := hA.cell 0
      have d1 : w9.cell? ⟨w8.heap.size, 1, none⟩ = some (.int .u64 (s.call (s.carried n)).key) := A9.cell 1
      have d2 : w9.cell? ⟨w8.heap.size, 2, none⟩ = some (.int .u64 (s.call (s.carried n)).val) := A9.cell 2
      have hz9 : w5.heap.size + 1 < w9.heap.size := P9.loop.lt
      clear P9 A9 O9 hA c07 c06 cm6 cm c0
      generalize hrl : s.vw.prsRun s.vl [] ((s.chain 0).take j) = rl at *
      refine wpR_region_lit rfl ?_
      go_wp2_with (at_builtin; refine wpList_append_own _ rfl (.tmp 49) (.tmp 55) 49 rfl (w5.heap.size + 1 + 1) 103 i0 (.agg #[.int .u64 0, .int .u64 0]) 2 16 Tryz.underlying49 hi hz0 hz1 hz2 rfl (by decide) v rl.length _ rfl (ownsRow_below hR ((Below.refl _ _).alloc (Nat.le_refl _) _) rfl) ⟨w9.heap.size, 0, none⟩ 1 1 [.int .u64 (s.call (s.carried n)).key, .int .u64 (s.call (s.carried n)).val] rfl rfl ?c1 ?c2 ?c3 ?c4 ?c5 ?next)
      case c1 =>
        intro i u hu
        match i, hu with
        | 0, hu => simp at hu; subst hu; exact (At.new w9 _ _).cell 0
        | 1, hu => simp at hu; subst hu; exact (At.new w9 _ _).cell 1
        | _ + 2, hu => simp at hu
      case c2 => intro u hu; simp at hu; rcases hu with rfl | rfl <;> rfl
      case c3 => have := HPL.out; have := HTL.out; unfold maxLen; omega
      case c4 => have := HPL.out; have := HTL.out; omega
      case c5 => rw [World.size_alloc]; omega
      case next =>
        intro v' w3 hR3 hg3 _
        have hz3 : w9.heap.size ≤ w3.heap.size := by have := hg3.size; rw [World.size_alloc] at this; omega
        have keep : ∀ i, i < w5.heap.size + 1 + 1 → w3.heap[i]? = w9.heap[i]? := fun i hi => (hg3.block i (by rw [World.size_alloc]; omega) (own_ne hR hi)).trans (Below.heap_alloc w9 _ i (by omega))
        have Q9 := HP9.out
        obtain ⟨v9, hA9, _⟩ := Q9.out
        have hvv : v9 = v := by have e1 := hA9.cell 0; rw [c09] at e1; simpa using e1.symm
        subst hvv
        have A3 : At w3 (w.heap.size + 1) 49 #[v9] := (keep _ (by omega)).trans hA9
        have B3 : Below w.heap.size w w3 := ⟨hg3.os.trans Q9.below.os, hg3.tape.trans Q9.below.tape, hg3.output.trans Q9.below.output, Nat.le_trans Q9.below.size hz3, fun i hi => (keep i (by omega)).trans (Q9.below.block i hi)⟩
        have c3 : w3.cell? ⟨w.heap.size + 1, 0, none⟩ = some v9 := A3.cell 0
        have fz3 := A3.frozen 0
        have l3 := A3.lt
        have hR3' : w3.ownsRow (w5.heap.size + 1 + 1) 103 2 v' (rl.length + 1) (pairsV (rl ++ [(s.vw.key n, s.vl (s.carried n))])) := by
          rw [pairsV_append]; exact hR3
        have RR := Lib.hid hR3'
        have KK := Lib.hid keep
        have BB := Lib.hid B3
        have AA := Lib.hid A3
        clear keep hR3 hR3' B3 A3 c09 d1 d2 hA9 Q9 hg3
        obtain ⟨gg3, cap3, hv', _⟩ := RR.out.form (Nat.succ_pos _)
        subst hv'
        go_wp2_with fail
        have R3 := RR.out
        have O3 : Only (fun j => j = w.heap.size + 1) w3 (w3.setCell ⟨w.heap.size + 1, 0, none⟩ (.slice (some ⟨gg3, 0, none⟩) (rl.length + 1) cap3)) := (Only.refl (fun j => j = w.heap.size + 1) w3).set (p := ⟨w.heap.size + 1, 0, none⟩) (.inl rfl) _
        have P3 : PInv k w w4.heap.size (w5.heap.size + 1) w5.heap.size { L with state := .busy } (s.vw.onceRun [] ((s.chain 0).take (j + 1))) (s.vw.prsRun s.vl [] ((s.chain 0).take (j + 1))) (w3.setCell ⟨w.heap.size + 1, 0, none⟩ (.slice (some ⟨gg3, 0, none⟩) (rl.length + 1) cap3)) := by
          have Q9 := HP9.out
          rw [HPN.out]
          refine ⟨heap_only ((KK.out _ (by omega)).trans Q9.loop) O3 (by show ¬ _ = _; omega), heap_only ((KK.out _ (by omega)).trans Q9.mark) O3 (by show ¬ _ = _; omega), At.only ((KK.out _ (by omega)).trans Q9.p1) O3 (by show ¬ _ = _; omega), ⟨_, AA.out.set 0 _, by rw [List.length_append]; exact ownsRow_onlyB R3 O3 fun i hi e => by have e' : i = w.heap.size + 1 := e; omega⟩, SetAt.only ((KK.out _ (by omega)).trans Q9.set) O3 (by show ¬ _ = _; omega), At.only ((KK.out _ (by omega)).trans Q9.mp) O3 (by show ¬ _ = _; omega), ?_, BB.out.trans (O3.below BB.out.size fun i hi e => by have e' : i = w.heap.size + 1 := e; omega)⟩
          refine cell_only ?_ O3 (by show ¬ w4.heap.size = w.heap.size + 1; omega)
          rw [World.cell?_of_block (KK.out w4.heap.size (by omega))]; exact Q9.cw
        refine ⟨rfl, { L with state := .busy }, P3.loop, ?_⟩
        refine ⟨rfl, ?_⟩
        rw [roundEnd_busy hs hp]
        exact P3.put (by omega) (by omega) (by omega)
    · rw [if_neg hnew] at hsn hpn
      have HSN := Lib.hid hsn
      have HPN := Lib.hid hpn
      have hnew' : s.isIn (s.carried n) = true → s.carried n ∈ s.vw.onceRun [] ((s.chain 0).take j) := fun e => Classical.byContradiction fun hm => hnew ⟨hin.1 e, hm⟩
      clear hsn hpn hin hop hnew
      refine wpR_seq_k fun K1 hK1 => ?_
      refine wpR_region_lit rfl ?_
      go_wp2_with (go_at_call 38; refine (carried_any n _ HH.out).mono ?_; rintro e w3 ⟨rfl, rfl⟩)
      refine ⟨rfl, hK1 _ _ ?_⟩
      cases hi1 : s.isIn (s.carried n) with
      | true =>
        have HI := Lib.hid hi1
        have HME := Lib.hid (decide_eq_true (hnew' hi1))
        clear hnew' hi1
        refine wpR_seq_k fun K2 hK2 => ?_
        refine wpR_region_lit rfl ?_
        go_wp2_with (first
          | (refine wpl_op (by rfl) (op_has 169 _ _ rfl Tryz.underlying169 Tryz.underlying3 zbool (w.heap.size + 1 + 1) rfl _ rfl P6.out.set ?_); rw [HME.out])
          | (go_at_call 112; refine (lin_any (s.carried n) _ HH.out).mono ?_; rw [HI.out]; rintro e w6 ⟨rfl, hb6⟩
             have P6 := Lib.hid (HP.out.still hb6)
             have cm6 := P6.out.mp.cell 0
             have c06 := P6.out.p1.cell 0))
        refine ⟨rfl, hK2 _ _ ?_⟩
        refine wpR_cond (t := false) rfl (wpR_skip ?_)
        have P3 := P6.out
        rw [← HSN.out, ← HPN.out] at P3
        refine ⟨{ L with state := .busy }, P3.loop, ?_⟩
        refine ⟨rfl, ?_⟩
        rw [roundEnd_busy hs hp]
        exact P3.put (by omega) (by omega) (by omega)
      | false =>
        have HI := Lib.hid hi1
        clear hnew' hi1
        refine wpR_seq_k fun K2 hK2 => ?_
        refine wpR_region_lit rfl ?_
        go_wp2_with (go_at_call 112; refine (lin_any (s.carried n) _ HH.out).mono ?_; rw [HI.out]; rintro e w6 ⟨rfl, hb6⟩
                     have P6 := Lib.hid (HP.out.still hb6))
        refine ⟨rfl, hK2 _ _ ?_⟩
        refine wpR_cond (t := false) rfl (wpR_skip ?_)
        have P3 := P6.out
        rw [← HSN.out, ← HPN.out] at P3
        refine ⟨{ L with state := .busy }, P3.loop, ?_⟩
        refine ⟨rfl, ?_⟩
        rw [roundEnd_busy hs hp]
        exact P3.put (by omega) (by omega) (by omega)
  rintro e w' ⟨rfl, hF | hC⟩
  · exact hF.elim
  refine ⟨_, rfl, L, hC.loop, (by rw [hs]; intro e; cases e), ?_⟩
  have P2 := hC.put (L' := { L with state := .exhausted }) (by omega) (by omega) (by omega)
  rw [List.take_length] at P2
  have HP2 := Lib.hid P2
  have HPE := Lib.hid hp
  obtain ⟨v, hA, hR⟩ := P2.out
  have c3 := hA.cell 0
  have MM := Lib.hid P2.mark
  have zz2 := P2.loop.lt
  have hln := prs_len s.vw s.vl (s.chain 0) []
  clear hC P2 hp hs hpa c1 q0 q1 zcb
  generalize putLoop w' (w5.heap.size + 1) { L with state := .exhausted } = W2 at *
  rw [HPE.out]
  dsimp only
  have AA := Lib.hid hA
  have RR := Lib.hid hR
  clear hA hR
  go_wp2_with fail
  rw [rounds_succ]
  go_wp2_with (go_at_call 114; refine (sort_row _ v _ _ RR.out (by omega)).mono ?_; rintro e wT ⟨rfl, hRT, hOT⟩; have c3T := cell_only (p := ⟨w.heap.size + 1, 0, none⟩) c3 hOT (by show ¬ w5.heap.size + 1 + 1 ≤ w.heap.size + 1; omega))
  have hMT := heap_only MM.out hOT (by show ¬ w5.heap.size + 1 + 1 ≤ w5.heap.size; omega)
  have hBT : Below w.heap.size w wT := HP2.out.below.trans (hOT.below HP2.out.below.size fun i hi e => by have e' : w5.heap.size + 1 + 1 ≤ i := e; omega)
  refine ⟨[w5.heap.size], rfl, ⟨by simp, by simpa using hMT⟩, _, results_tmp rfl _ _ _, v, rfl, ?_, taken_below hBT (by omega)⟩
  have ht := ownsRow_taken hRT (r := w5.heap.size) (by omega)
  have e : s.prs.length = (s.vw.prsRun s.vl [] (s.chain 0)).length := isort_len _
  rw [e]
  exact ht.mono (by omega)
end Go.Proofs.YtccmjljlfgbicaaGreat

