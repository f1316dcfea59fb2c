/- Laws for the walk: append to a row of one's own, of whatever there is, in a plain region and in one that draws. Over any program. -/
import Derived.Test.YtccmjljlfgbicaaGreatRefM
import Derived.Deep.RegionLawGrows
import Derived.Laws.OwnMore
namespace Go.Proofs.YtccmjljlfgbicaaGreat
open Go.ChangeShapes Go.WideShapes Go.ChangeAt Go.RowKit

section
variable {P : Program}
theorem run_app {w : World} (base : Nat) (t ty e : TypeId) (i : TypeInfo) (z : Value) (size bytes : Nat) (ht : P.underlying t = some (.slice e)) (hi : P.info? e = some i) (hz : i.zero = some z) (hsize : i.size = size) (hby : i.bytes = bytes) (hzs : z.cells.size = size) (hsz : 0 < size)
    {g n cap : Nat} {xs : List Value} (hown : w.ownsRow base e size (.slice (some ⟨g, 0, none⟩) n cap) n xs) {ao : Option Addr} {m c : Nat} {news : List Value} (hl : news.length = m * size) (hr : ReadAt w ao news) (hn : m = 0 → ao = none → c = 0) (h1 : ∀ u ∈ news, u.oneCell' = true)
    (h63 : n + m ≤ maxLen) (hbytes : (n + m) * bytes ≤ 140737488355328) (hbase : base ≤ w.heap.size) :
    ∃ g' cap' w', (Builtin.append_ #[t, t] ty #[.slice (some ⟨g, 0, none⟩) n cap, .slice ao m c]).run P w = .ok (.slice (some ⟨g', 0, none⟩) (n + m) cap') w' ∧ w'.ownsRow base e size (.slice (some ⟨g', 0, none⟩) (n + m) cap') (n + m) (xs ++ news) ∧ w.grownBy w' (some g) ∧ base ≤ g' := by
  have hg : base ≤ g := by
    rcases hown.2 with ⟨k, _⟩ | ⟨g', cap', cur, k, k2, _⟩
    · cases k
    · injection k with k1; injection k1 with k1; injection k1 with k1; omega
  cases ao with
  | none =>
    have hm : m = 0 := by
      rcases Nat.eq_zero_or_pos m with k | k
      · exact k
      · exfalso
        have hlen : 0 < news.length := by rw [hl]; exact Nat.mul_pos k hsz
        obtain ⟨b, o, k1, _⟩ := hr 0 _ (List.getElem?_eq_getElem hlen)
        cases k1
    subst hm
    have hnil : news = [] := List.eq_nil_of_length_eq_zero (by simpa using hl)
    subst hnil
    rw [hn rfl rfl]
    have hrun := run_append_owned_none (P := P) (w := w) base t ty e i size ht hi _ n xs hown
    exact ⟨g, cap, w, by simpa using hrun, by simpa using hown, World.grownBy.refl _ _, hg⟩
  | some ad =>
    have hcells : ∀ j u, news[j]? = some u → w.cell? (ad.add j) = some u := by
      intro j u hu
      obtain ⟨b, o, k1, k2⟩ := hr j u hu
      injection k1 with k1
      rw [k1, Addr.add_lit]; exact k2
    obtain ⟨v', w', r1, r2, r3, r4⟩ := run_append_own (P := P) (w := w) base t ty e i z size bytes ht hi hz hsize hby hzs hsz _ n xs hown ad m c news hl hcells h1 h63 hbytes hbase
    rcases r2.2 with ⟨k, _⟩ | ⟨g', cap', cur, k, k2, _⟩
    · have := r4.1 k
      cases this.1
    · subst k
      exact ⟨g', cap', w', r1, r2, r3, k2⟩

variable {ops : Array Oper} {rest : List Oper} {o : Oper} {a : Act} {w : World} {Q : Exit → Act → World → Prop}
theorem wpl_app (hgd : o.guard = none) (s x : Operand) (t : TypeId) (ho : o.op = .call { callee := .builtin .append, args := #[s, x], argTypes := #[t, t] })
    (base : Nat) (e : TypeId) (i : TypeInfo) (z : Value) (size bytes : Nat) (ht : P.underlying t = some (.slice e)) (hi : P.info? e = some i) (hz : i.zero = some z) (hsize : i.size = size) (hby : i.bytes = bytes) (hzs : z.cells.size = size) (hsz : 0 < size)
    {g n cap : Nat} {xs : List Value} (hs : a.eval s = .slice (some ⟨g, 0, none⟩) n cap) (hown : w.ownsRow base e size (.slice (some ⟨g, 0, none⟩) n cap) n xs) {ao : Option Addr} {m c : Nat} {news : List Value} (hx : a.eval x = .slice ao m c) (hl : news.length = m * size) (hr : ReadAt w ao news) (hn : m = 0 → ao = none → c = 0) (h1 : ∀ u ∈ news, u.oneCell' = true)
    (h63 : n + m ≤ maxLen) (hbytes : (n + m) * bytes ≤ 140737488355328) (hbase : base ≤ w.heap.size)
    (h : ∀ g' cap' w', w'.ownsRow base e size (.slice (some ⟨g', 0, none⟩) (n + m) cap') (n + m) (xs ++ news) → w.grownBy w' (some g) → base ≤ g' → wpList P ops Q rest (a.put o.dst (.slice (some ⟨g', 0, none⟩) (n + m) cap')) w') : wpList P ops Q (o :: rest) a w := by
  obtain ⟨g', cap', w', hrun, r2, r3, r4⟩ := run_app (P := P) base t o.type e i z size bytes ht hi hz hsize hby hzs hsz hown hl hr hn h1 h63 hbytes hbase
  refine wpList_plain hgd fun K hK => ?_
  unfold Oper.wp
  simp [execOp, ho, resolve, invoke, builtin, hs, hx, hrun, Result.andThen]
  exact hK _ _ (h g' cap' w' r2 r3 r4)
theorem step_app {K : Act → World → Prop} {E : Prop} (hgd : o.guard = none) (s x : Operand) (t : TypeId) (ho : o.op = .call { callee := .builtin .append, args := #[s, x], argTypes := #[t, t] })
    (base : Nat) (e : TypeId) (i : TypeInfo) (z : Value) (size bytes : Nat) (ht : P.underlying t = some (.slice e)) (hi : P.info? e = some i) (hz : i.zero = some z) (hsize : i.size = size) (hby : i.bytes = bytes) (hzs : z.cells.size = size) (hsz : 0 < size)
    {g n cap : Nat} {xs : List Value} (hs : a.eval s = .slice (some ⟨g, 0, none⟩) n cap) (hown : w.ownsRow base e size (.slice (some ⟨g, 0, none⟩) n cap) n xs) {ao : Option Addr} {m c : Nat} {news : List Value} (hx : a.eval x = .slice ao m c) (hl : news.length = m * size) (hr : ReadAt w ao news) (hn : m = 0 → ao = none → c = 0) (h1 : ∀ u ∈ news, u.oneCell' = true)
    (h63 : n + m ≤ maxLen) (hbytes : (n + m) * bytes ≤ 140737488355328) (hbase : base ≤ w.heap.size)
    (h : ∀ g' cap' w', w'.ownsRow base e size (.slice (some ⟨g', 0, none⟩) (n + m) cap') (n + m) (xs ++ news) → w.grownBy w' (some g) → base ≤ g' → K (a.put o.dst (.slice (some ⟨g', 0, none⟩) (n + m) cap')) w') : if Region.wanted o (yielded ops a.tmps) = true then Oper.wp P o a w K Q else E := by
  obtain ⟨g', cap', w', hrun, r2, r3, r4⟩ := run_app (P := P) base t o.type e i z size bytes ht hi hz hsize hby hzs hsz hown hl hr hn h1 h63 hbytes hbase
  have hw : Region.wanted o (yielded ops a.tmps) = true := by simp [Region.wanted, hgd]
  rw [if_pos hw]
  unfold Oper.wp
  simp [execOp, ho, resolve, invoke, builtin, hs, hx, hrun, Result.andThen]
  exact h g' cap' w' r2 r3 r4
end
end Go.Proofs.YtccmjljlfgbicaaGreat
