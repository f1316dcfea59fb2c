/- A state as it can be seen; what its steps change of that. -/
import Derived.Test.YtccmjljlfgbicaaLaid
import Derived.Test.YtccmjljlfgbicaaStp
namespace Go.Proofs.Ytccmjljlfgbicaa
open Go.ChangeShapes Go.WideShapes Go.ChangeAt Go.RowKit

def St.vw (s : St) : Vw := { nb := s.c.buckets, nx := fun n => s.peek (s.nextAt n), wd := fun o => s.peek (s.wordAt o), op := s.carried, ky := fun o => (s.call o).key, bk := fun k => bucketOf k s.c.buckets, kd := fun o => (s.call o).kind }
theorem Vw.ext' {v v' : Vw} (h1 : v.nb = v'.nb) (h2 : v.nx = v'.nx) (h3 : v.wd = v'.wd) (h4 : v.op = v'.op) (h5 : v.ky = v'.ky) (h6 : v.bk = v'.bk) (h7 : v.kd = v'.kd) : v = v' := by
  cases v; cases v'; simp_all

section
variable {s : St}
theorem nextAt_cases (s : St) (n : Int) : (s.nextAt n = n ∧ 0 ≤ n ∧ n < s.c.nodes) ∨ (s.nextAt n = -1 ∧ ¬ (0 ≤ n ∧ n < s.c.nodes)) := by
  unfold St.nextAt atOr
  split
  · rename_i h; exact .inl ⟨rfl, h⟩
  · rename_i h; exact .inr ⟨rfl, h⟩
theorem wordAt_cases (s : St) (n : Int) : (s.wordAt n = s.c.nodes + n ∧ 0 ≤ n ∧ n < s.c.ops) ∨ (s.wordAt n = -1 ∧ ¬ (0 ≤ n ∧ n < s.c.ops)) := by
  unfold St.wordAt atOr
  split
  · rename_i h; exact .inl ⟨rfl, h⟩
  · rename_i h; exact .inr ⟨rfl, h⟩
theorem peek_neg (s : St) : s.peek (-1) = 0 := by unfold St.peek peekL; rw [if_neg (by omega)]
theorem swaps_neg (s : St) (old : Int) : s.swaps (-1) old = false := by
  unfold St.swaps swapB inL; rw [show decide ((0 : Int) ≤ -1 ∧ (-1 : Int) < (s.words.length : Int)) = false from decide_eq_false (by omega)]; rfl
theorem swaps_iff (s : St) (p old : Int) : s.swaps p old = true ↔ (0 ≤ p ∧ p < (s.words.length : Int)) ∧ s.peek p = old := by
  unfold St.swaps swapB inL St.peek; simp
theorem swap_no {p old x : Int} (h : s.swaps p old = false) : (s.swap p old x).words = s.words := by
  unfold St.swaps at h
  unfold St.swap swapL; simp [h]
theorem vw_words {s' : St} (h1 : s'.c = s.c) (h2 : s'.ops = s.ops) (h3 : s'.nodes = s.nodes) (h4 : s'.words = s.words) : s'.vw = s.vw := by
  unfold St.vw St.peek St.nextAt St.wordAt St.carried St.call St.callOf
  rw [h1, h2, h3, h4]
theorem vw_load (p : Int) : (s.load p).vw = s.vw := rfl
theorem vw_swap_no {p old x : Int} (h : s.swaps p old = false) : (s.swap p old x).vw = s.vw := vw_words rfl rfl rfl (swap_no h)
theorem nodes_len (h : s.ok) : (s.words.length : Int) = s.c.nodes + s.c.ops + s.c.threads ∧ 4 ≤ s.c.nodes ∧ 0 ≤ s.c.ops ∧ 1 ≤ s.c.threads := by
  have h1 := h.len
  have h2 := nodes_bounds h.may
  have h3 := ops_bounds s.c
  have h4 := may_bounds h.may
  omega
theorem vw_swap_next {n old x : Int} (h : s.swaps (s.nextAt n) old = true) : (s.swap (s.nextAt n) old x).vw = { s.vw with nx := upd s.vw.nx n x } := by
  rcases nextAt_cases s n with ⟨e, hn⟩ | ⟨e, _⟩
  · rw [e] at h ⊢
    refine Vw.ext' rfl ?_ ?_ rfl rfl rfl rfl
    · funext m
      show (s.swap n old x).peek (s.nextAt m) = upd (fun n => s.peek (s.nextAt n)) n x m
      rw [peek_swap h]
      unfold upd
      dsimp only
      rcases nextAt_cases s m with ⟨e', hm⟩ | ⟨e', hm⟩
      · rw [e']
      · rw [e']
        by_cases q : m = n
        · subst q; exact (hm hn).elim
        · rw [if_neg q, if_neg (by omega)]
    · funext o
      show (s.swap n old x).peek (s.wordAt o) = s.peek (s.wordAt o)
      rw [peek_swap h]
      rcases wordAt_cases s o with ⟨e', ho⟩ | ⟨e', ho⟩
      · rw [if_neg (by omega)]
      · rw [if_neg (by omega)]
  · rw [e, swaps_neg] at h; cases h
theorem vw_swap_word {o old x : Int} (hok : s.ok) (h : s.swaps (s.wordAt o) old = true) : (s.swap (s.wordAt o) old x).vw = { s.vw with wd := upd s.vw.wd o x } := by
  have hl := nodes_len hok
  rcases wordAt_cases s o with ⟨e, hn⟩ | ⟨e, _⟩
  · rw [e] at h ⊢
    refine Vw.ext' rfl ?_ ?_ rfl rfl rfl rfl
    · funext m
      show (s.swap (s.c.nodes + o) old x).peek (s.nextAt m) = s.peek (s.nextAt m)
      rw [peek_swap h]
      rcases nextAt_cases s m with ⟨e', hm⟩ | ⟨e', hm⟩
      · rw [if_neg (by omega)]
      · rw [if_neg (by omega)]
    · funext m
      show (s.swap (s.c.nodes + o) old x).peek (s.wordAt m) = upd (fun o => s.peek (s.wordAt o)) o x m
      rw [peek_swap h]
      unfold upd
      rcases wordAt_cases s m with ⟨e', hm⟩ | ⟨e', hm⟩
      · rw [e']
        by_cases q : m = o
        · subst q; rw [if_pos rfl, if_pos rfl]
        · rw [if_neg q, if_neg (by omega)]; show _ = s.peek (s.wordAt m); rw [e']
      · rw [e']
        by_cases q : m = o
        · subst q; exact (hm hn).elim
        · rw [if_neg q, if_neg (by omega)]; show _ = s.peek (s.wordAt m); rw [e']
  · rw [e, swaps_neg] at h; cases h
theorem vw_store_next {n x : Int} (hok : s.ok) (hn : 0 ≤ n ∧ n < s.c.nodes) : (s.store (s.nextAt n) x).vw = { s.vw with nx := upd s.vw.nx n x } := by
  have hl := nodes_len hok
  rw [nextAt_in hn.1 hn.2]
  refine Vw.ext' rfl ?_ ?_ rfl rfl rfl rfl
  · funext m
    show (s.store n x).peek (s.nextAt m) = upd (fun n => s.peek (s.nextAt n)) n x m
    rw [peek_store hn.1 (by omega)]
    unfold upd
    dsimp only
    rcases nextAt_cases s m with ⟨e', hm⟩ | ⟨e', hm⟩
    · rw [e']
    · rw [e']
      by_cases q : m = n
      · subst q; exact (hm hn).elim
      · rw [if_neg q, if_neg (by omega)]
  · funext o
    show (s.store n x).peek (s.wordAt o) = s.peek (s.wordAt o)
    rw [peek_store hn.1 (by omega)]
    rcases wordAt_cases s o with ⟨e', ho⟩ | ⟨e', ho⟩
    · rw [if_neg (by omega)]
    · rw [if_neg (by omega)]
end

def Walk.wk (x : Walk) : Wk := ⟨x.key, x.mode, x.phase, x.pred, x.curr, x.next, x.seen⟩
def St.bof (s : St) (key : Int) : Int := bucketOf key s.c.buckets

theorem bof_range {s : St} (h : s.c.may = true) (key : Int) : 0 ≤ s.bof key ∧ s.bof key < s.c.buckets := by
  have hb : mayB s.c.buckets = true := by
    unfold Conf.may at h
    simp only [Bool.and_eq_true] at h
    exact h.2.1
  unfold St.bof bucketOf
  rw [if_pos hb]
  have hm := mayB_cases hb
  have h1 : 0 ≤ key * 11400714819323198485 % 18446744073709551616 ∧ key * 11400714819323198485 % 18446744073709551616 < 18446744073709551616 := ⟨Int.emod_nonneg _ (by decide), Int.emod_lt_of_pos _ (by decide)⟩
  generalize key * 11400714819323198485 % 18446744073709551616 = z at *
  rcases hm with e | e | e | e | e | e | e <;> rw [e] <;> omega
theorem head_eq {s : St} (h : s.c.may = true) (key : Int) : s.head key = 1 + s.bof key := atOr_in (bof_range h key)

/-- How far a walk among others has come: before its first step, at a node, at its end, or stopped. -/
inductive Wst (s : St) (g : Gh) (x : Walk) (t0 : Int) : Prop
  | ahead (hd : x.done = false) (hp : x.phase = 0)
  | at_ (hd : x.done = false) (hp : 1 ≤ x.phase ∧ x.phase ≤ 7) (h : WI s.vw g (s.bof x.key) x.wk t0)
  | end_ (hd : x.done = true) (hs : x.stop = false) (h : WE s.vw g (s.bof x.key) x.wk t0)
  | stop (hd : x.done = true) (hs : x.stop = true) (hm : x.mode = 2)
end Go.Proofs.Ytccmjljlfgbicaa
