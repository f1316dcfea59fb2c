/- Contracts of the document's references: Pack, Marked. -/
import Derived.Test.YtccmjljlfgbicaaGreatLow
namespace Go.Proofs.YtccmjljlfgbicaaGreat
open Go.ChangeShapes Go.WideShapes Go.ChangeAt Go.RowKit

theorem rpack_any (n : Int) (m : Bool) (w : World) :
    Calls Tryz.prog 60 #[.int .i64 n, .bool m] w fun e w' => e = .returned (.int .u64 (refOf n m)) ∧ w = w' := by
  by_cases h0 : n < 0
  · have hr := Lib.hid (refOf_out (n := n) (m := m) (by omega))
    go_enter Tryz.func60, Tryz.ntmps60
    go_wp2
    go_ret
    exact ⟨ret_u hr.out.symm, rfl⟩
  · by_cases h1 : 2147483647 < n
    · have hr := Lib.hid (refOf_out (n := n) (m := m) (by omega))
      go_enter Tryz.func60, Tryz.ntmps60
      go_wp2
      go_ret
      exact ⟨ret_u hr.out.symm, rfl⟩
    · have e1 : IntKind.u64.wrap n = n := IntWalk.u64_in _ (by omega)
      have e2 : IntKind.u64.wrap (2 * n) = 2 * n := IntWalk.u64_in _ (by omega)
      have e3 : IntKind.u64.wrap (2 * n + 1) = 2 * n + 1 := IntWalk.u64_in _ (by omega)
      have hr := Lib.hid (refOf_in (n := n) (m := m) (by omega))
      cases m
      · go_enter Tryz.func60, Tryz.ntmps60
        go_wp2
        go_ret
        exact ⟨ret_u (by rw [hr.out]; simp [b2i]), rfl⟩
      · go_enter Tryz.func60, Tryz.ntmps60
        go_wp2
        go_ret
        exact ⟨ret_u (by rw [hr.out]; simp [b2i]), rfl⟩
theorem rmarked_any (a : Int) (w : World) (h0 : 0 ≤ a) (h1 : a ≤ 18446744073709551615) :
    Calls Tryz.prog 61 #[.int .u64 a] w fun e w' => e = .returned (.bool (a % 2 == 1)) ∧ w = w' := by
  go_enter Tryz.func61, Tryz.ntmps61
  go_wp2
  go_ret
  exact ⟨rfl, rfl⟩

end Go.Proofs.YtccmjljlfgbicaaGreat
