/- Contract of look.Pairs, where there is one bucket. -/
import Derived.Test.YtccmjljlfgbicaaLkA
import Derived.Test.YtccmjljlfgbicaaSetM
import Derived.Test.YtccmjljlfgbicaaSortW
import Derived.Test.YtccmjljlfgbicaaView
namespace Go.Proofs.Ytccmjljlfgbicaa
open Go.ChangeShapes Go.WideShapes Go.ChangeAt Go.RowKit

/-- What was met behind some nodes. -/
def Vw.onceRun (v : Vw) : List Int → List Int → List Int
  | once, [] => once
  | once, n :: l => if v.inn (v.op n) ∧ v.op n ∉ once then v.onceRun (once ++ [v.op n]) l else v.onceRun once l
theorem once_snoc (v : Vw) (n : Int) : ∀ (A once : List Int), v.onceRun once (A ++ [n]) = if v.inn (v.op n) ∧ v.op n ∉ v.onceRun once A then v.onceRun once A ++ [v.op n] else v.onceRun once A
  | [], once => rfl
  | a :: A, once => by
    simp only [List.cons_append, Vw.onceRun]
    split
    · exact once_snoc v n A _
    · exact once_snoc v n A _
theorem prs_snoc (v : Vw) (vl : Int → Int) (n : Int) : ∀ (A once : List Int), v.prsRun vl once (A ++ [n]) = if v.inn (v.op n) ∧ v.op n ∉ v.onceRun once A then v.prsRun vl once A ++ [(v.key n, vl (v.op n))] else v.prsRun vl once A
  | [], once => by
    show (if v.inn (v.op n) ∧ v.op n ∉ once then (v.key n, vl (v.op n)) :: [] else []) = if v.inn (v.op n) ∧ v.op n ∉ once then [] ++ [(v.key n, vl (v.op n))] else []
    split <;> rfl
  | a :: A, once => by
    simp only [List.cons_append, Vw.onceRun, Vw.prsRun]
    split
    · rw [prs_snoc v vl n A]
      split <;> rfl
    · exact prs_snoc v vl n A _
theorem prs_len (v : Vw) (vl : Int → Int) : ∀ (A once : List Int), (v.prsRun vl once A).length ≤ A.length
  | [], once => Nat.le_refl _
  | a :: A, once => by
    simp only [Vw.prsRun]
    split
    · have := prs_len v vl A (once ++ [v.op a]); simp; omega
    · have := prs_len v vl A once; simp; omega

def St.vl (s : St) (o : Int) : Int := (s.call o).val
/-- The pairs that a world has. -/
def St.prs (s : St) : List (Int × Int) := isort (s.vw.prsRun s.vl [] (s.chain 0))
theorem insertOf_iff (s : St) (n : Int) : s.insertOf n = true ↔ s.vw.kd n = 1 := by
  unfold St.insertOf St.vw
  show _ ↔ (s.call n).kind = 1
  unfold St.call
  cases h : s.callOf n with
  | none => simp
  | some c => simp
theorem isIn_iff (s : St) (n : Int) : s.isIn n = true ↔ s.vw.inn n := by
  unfold St.isIn
  rw [Bool.and_eq_true, insertOf_iff, beq_iff_eq]
  exact Iff.rfl

theorem isort_len (l : List (Int × Int)) : (isort l).length = l.length := by
  have := (isort_run l l.length (Nat.le_refl _)).1
  rwa [List.take_length] at this

set_option maxRecDepth 100000 in
set_option maxHeartbeats 1000000 in
theorem stable_nil (w : World) :
    Calls Try.prog 60 #[.slice none 0 0, .func (.func 61) #[] #[]] w fun e w' => e = .returned (.tuple #[]) ∧ w = w' := by
  have hin : Calls Try.prog 124 #[.slice none 0 0, .int .i64 0, .int .i64 0, .func (.func 61) #[] #[]] w fun e w' => e = .returned (.tuple #[]) ∧ w = w' := by
    go_enter Try.func124, Try.ntmps124
    go_wp2_with fail
    refine wp_loop_rounds 1 ?_
    rw [rounds_succ]
    go_wp2_with fail
    go_end0
    exact ⟨rfl, rfl⟩
  have hst : Calls Try.prog 106 #[.slice none 0 0, .int .i64 0, .func (.func 61) #[] #[]] w fun e w' => e = .returned (.tuple #[]) ∧ w = w' := by
    go_enter Try.func106, Try.ntmps106
    go_wp2_with fail
    refine wp_loop_rounds 1 ?_
    rw [rounds_succ]
    go_wp2_with (go_at_call 124; refine hin.mono ?_; rintro e w1 ⟨rfl, rfl⟩)
    refine wp_loop_rounds 1 ?_
    rw [rounds_succ]
    go_wp2_with fail
    go_end0
    exact ⟨rfl, rfl⟩
  go_enter Try.func60, Try.ntmps60
  go_wp2_with (go_at_call 106; refine hst.mono ?_; rintro e w1 ⟨rfl, rfl⟩)
  go_end0
  exact ⟨rfl, rfl⟩
/-- A row of one's own is sorted. -/
theorem sort_row (l : List (Int × Int)) (v : Value) (base : Nat) (w : World) (hR : w.ownsRow base 48 2 v l.length (pairsV l)) (hl : l.length ≤ 19) :
    Calls Try.prog 60 #[v, .func (.func 61) #[] #[]] w fun e w' => e = .returned (.tuple #[]) ∧ w'.ownsRow base 48 2 v l.length (pairsV (isort l)) ∧ Only (fun j => base ≤ j) w w' := by
  rcases hR.2 with ⟨rfl, hn⟩ | ⟨g, cap, cur, rfl, h1, h2, h3, h4, h5, h6⟩
  · have : l = [] := List.eq_nil_of_length_eq_zero hn
    subst this
    refine (stable_nil w).mono ?_
    rintro e w' ⟨rfl, rfl⟩
    exact ⟨rfl, hR, Only.refl _ _⟩
  · have hc : cur = (pairsV l ++ cur.toList.drop (l.length * 2)).toArray := by rw [← h6, List.take_append_drop]
    have hA : At w g 48 (pairsV l ++ cur.toList.drop (l.length * 2)).toArray := by rw [← hc]; exact h2
    refine (stable_any l g cap _ w hA hl).mono ?_
    rintro e w' ⟨rfl, hA', hO'⟩
    refine ⟨rfl, ⟨by rw [pairsV_len, isort_len], .inr ⟨g, cap, _, rfl, h1, hA', h3, h4, ?_, ?_⟩⟩, hO'.mono fun i _ e => by subst e; exact h1⟩
    · have := congrArg Array.size hc
      rw [h5] at this
      simp only [List.size_toArray, List.length_append, pairsV_len] at this ⊢
      rw [isort_len]; omega
    · have : (pairsV (isort l)).length = l.length * 2 := by rw [pairsV_len, isort_len]
      simp only []
      rw [List.take_left' this]

theorem cell_only {S : Nat → Prop} {w w' : World} {p : Addr} {u : Value} (h : w.cell? p = some u) (ho : Only S w w') (hs : ¬ S p.block) : w'.cell? p = some u := by
  rw [World.cell?_of_block (ho.block p.block (World.block_lt_of_cell? w _ h) hs)]; exact h

theorem ownsRow_onlyB {w w' : World} {base : Nat} {e : TypeId} {size : Nat} {v : Value} {n : Nat} {xs : List Value} {S : Nat → Prop} (h : w.ownsRow base e size v n xs) (ho : Only S w w') (hS : ∀ i, base ≤ i → ¬ S i) : w'.ownsRow base e size v n xs := by
  refine ⟨h.1, h.2.imp id ?_⟩
  rintro ⟨g, cap, cur, h1, h2, h3, h4⟩
  have hg : g < w.heap.size := by
    rcases Nat.lt_or_ge g w.heap.size with hlt | hge
    · exact hlt
    · rw [Array.getElem?_eq_none hge] at h3; cases h3
  exact ⟨g, cap, cur, h1, h2, (ho.block g hg (hS g h2)).trans h3, h4⟩
theorem heap_only {w w' : World} {S : Nat → Prop} {g : Nat} {o : Obj} (h : w.heap[g]? = some o) (ho : Only S w w') (hS : ¬ S g) : w'.heap[g]? = some o := by
  have hg : g < w.heap.size := by
    rcases Nat.lt_or_ge g w.heap.size with hlt | hge
    · exact hlt
    · rw [Array.getElem?_eq_none hge] at h; cases h
  exact (ho.block g hg hS).trans h

/-- What is known while the pairs are gathered. -/
structure PInv (k : Blks) (w : World) (cw lb lm : Nat) (L : Loop) (O : List Int) (R : List (Int × Int)) (w' : World) : Prop where
  loop : LoopAt w' lb L
  mark : w'.heap[lm]? = some (.deferred (some []))
  p1 : At w' w.heap.size 32 #[.pointer (some ⟨k.bw, 0, none⟩)]
  out : ∃ v, At w' (w.heap.size + 1) 36 #[v] ∧ w'.ownsRow (lb + 1) 48 2 v R.length (pairsV R)
  set : SetAt w' (w.heap.size + 1 + 1) .i64 O
  mp : At w' (w.heap.size + 1 + 1 + 1) 101 #[.map (some (w.heap.size + 1 + 1))]
  cw : w'.cell? ⟨cw, 0, none⟩ = some (.pointer (some ⟨k.bw, 0, none⟩))
  below : Below w.heap.size w w'
section
variable {k : Blks} {w : World} {cw lb lm : Nat} {L L' : Loop} {O O' : List Int} {R R' : List (Int × Int)} {w1 w2 : World}
theorem PInv.still (h : PInv k w cw lb lm L O R w1) (hb : Below w1.heap.size w1 w2) : PInv k w cw lb lm L O R w2 := by
  obtain ⟨v, h1, h2⟩ := h.out
  exact ⟨heap_below h.loop hb, heap_below h.mark hb, h.p1.below' hb, ⟨v, h1.below' hb, ownsRow_below h2 hb rfl⟩, h.set.below hb, h.mp.below' hb, by rw [hb.cell (World.block_lt_of_cell? w1 _ h.cw)]; exact h.cw, h.below.trans (hb.mono h.below.size)⟩
theorem PInv.put (h : PInv k w cw lb lm L O R w1) (hlb : w.heap.size + 1 + 1 + 1 < lb) (hlm : lm < lb) (hcw : cw < lb) : PInv k w cw lb lm L' O R (putLoop w1 lb L') := by
  obtain ⟨v, h1, h2⟩ := h.out
  refine ⟨putLoop_at h.loop.lt _, (putLoop_heap _ _ _ _ (by omega)).trans h.mark, (putLoop_heap _ _ _ _ (by omega)).trans h.p1, ⟨v, (putLoop_heap _ _ _ _ (by omega)).trans h1, ownsRow_put h2 (Nat.lt_succ_self _) _⟩, (putLoop_heap _ _ _ _ (by omega)).trans h.set, (putLoop_heap _ _ _ _ (by omega)).trans h.mp, ?_, putLoop_below h.below (by omega) _⟩
  rw [World.cell?_of_block (putLoop_heap w1 lb L' cw (by omega))]; exact h.cw
/-- The set grows. -/
theorem PInv.grow (h : PInv k w cw lb lm L O R w1) (hlb : w.heap.size + 1 + 1 + 1 < lb) (hlm : w.heap.size + 1 + 1 + 1 < lm) (hcw : w.heap.size + 1 + 1 + 1 < cw) (ho : Only (fun j => j = w.heap.size + 1 + 1) w1 w2) (hM : SetAt w2 (w.heap.size + 1 + 1) .i64 O') : PInv k w cw lb lm L O' R w2 := by
  obtain ⟨v, h1, h2⟩ := h.out
  exact ⟨heap_only h.loop ho (by show ¬ _ = _; omega), heap_only h.mark ho (by show ¬ _ = _; omega), h.p1.only ho (by show ¬ _ = _; omega), ⟨v, h1.only ho (by show ¬ _ = _; omega), ownsRow_onlyB h2 ho fun i hi e => by have e' : i = w.heap.size + 1 + 1 := e; omega⟩, hM, h.mp.only ho (by show ¬ _ = _; omega), cell_only h.cw ho (by show ¬ cw = w.heap.size + 1 + 1; omega), h.below.trans (ho.below h.below.size fun i hi e => by have e' : i = w.heap.size + 1 + 1 := e; omega)⟩
end
end Go.Proofs.Ytccmjljlfgbicaa
