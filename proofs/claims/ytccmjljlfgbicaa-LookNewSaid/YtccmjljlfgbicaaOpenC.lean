/- A call that comes in: its cells. -/
import Derived.Test.YtccmjljlfgbicaaOpenW
namespace Go.Proofs.Ytccmjljlfgbicaa
open Go.Joins Go.ChangeShapes Go.WideShapes Go.ChangeAt Go.RowKit Go.Deep

theorem array4 {α : Type} {cs : Array α} (h : cs.size = 4) : ∃ c0 c1 c2 c3, cs = #[c0, c1, c2, c3] := by
  obtain ⟨l⟩ := cs
  match l, h with
  | [c0, c1, c2, c3], _ => exact ⟨c0, c1, c2, c3, rfl⟩
theorem i64_of_wf {n : Int} (h : (Lit.int .i64 n).wf = true) : -9223372036854775808 ≤ n ∧ n ≤ 9223372036854775807 := by
  have := (Lit.wf_int_iff .i64 n).1 h
  simpa [IntKind.min, IntKind.max, IntKind.signed, IntKind.bits] using this
section
variable {H : Type} {enc : TypeId × Value → H} {w : World} {base : Nat} {spare : Nat → Bool} {held : Bool}
set_option maxRecDepth 100000 in
/-- A call that comes in. -/
theorem open_call {r : Reach} {b0 : Nat} {v : Value} {d : DataW H} {p : List MemPlace} (hv : Value.okWide Try.prog w r b0 28 v) (h : DataW.Trod enc Try.prog w base spare held 28 v d p) :
    ∃ c : GCall, v = c.v ∧ c.fits ∧ c.limit ≤ 9223372036854775807 := by
  obtain ⟨cs, rfl, hsz, hg⟩ := open_aggN Try.underlying28 (by kernel_rfl) (by kernel_rfl) hv h
  obtain ⟨c0, c1, c2, c3, rfl⟩ := array4 hsz
  obtain ⟨v0, y0, _, e0, t0⟩ := hg 0 _ rfl
  obtain ⟨v1, y1, _, e1, t1⟩ := hg 1 _ rfl
  obtain ⟨v2, y2, _, e2, t2⟩ := hg 2 _ rfl
  obtain ⟨v3, y3, _, e3, t3⟩ := hg 3 _ rfl
  cases e0; cases e1; cases e2; cases e3
  obtain ⟨n0, k0, _, w0⟩ := DataW.trod_int Try.underlying3 t0
  obtain ⟨n1, k1, _, w1⟩ := DataW.trod_int Try.underlying26 t1
  obtain ⟨n2, k2, _, w2⟩ := DataW.trod_int Try.underlying26 t2
  obtain ⟨n3, k3, _, w3⟩ := DataW.trod_int Try.underlying3 t3
  injection k0 with k0; injection k1 with k1; injection k2 with k2; injection k3 with k3
  subst k0; subst k1; subst k2; subst k3
  exact ⟨⟨n0, n1, n2, n3⟩, rfl, ⟨(u64_of_wf w1).1, (u64_of_wf w1).2, (u64_of_wf w2).1, (u64_of_wf w2).2⟩, (i64_of_wf w3).2⟩
end
end Go.Proofs.Ytccmjljlfgbicaa
