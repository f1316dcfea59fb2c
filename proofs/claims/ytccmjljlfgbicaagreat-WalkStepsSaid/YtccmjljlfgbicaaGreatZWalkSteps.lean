/- WalkSteps returns true for every scene, walk and list of acts: each step of a walk, disturbed by whatever is laid between its steps, comes to the same walk as in the document's answer, and all cells are the same at the end. No condition. -/
import Derived.Test.YtccmjljlfgbicaaGreatZStepsW
import Derived.Test.YtccmjljlfgbicaaGreatZG22
import Derived.WalkKit
import Derived.ProofKit
import Derived.OpenShut
namespace Go.Proofs.YtccmjljlfgbicaaGreat.walkSteps
open Go.ChangeShapes Go.WideShapes Go.ChangeAt Go.RowKit
set_option linter.unusedVariables false

theorem own : ownKnob Tryz.prog.godebug = none := by kernel_rfl
theorem laidOut : laidOutB Tryz.prog = true := by kernel_rfl

set_option maxRecDepth 100000 in
theorem lifted (os : Os) (started : os.Started) (H : Type) (enc : TypeId × Value → H) :
    ReturnsInHanded {} Tryz.checked os 5 .any (Rows.walkStepsSpec.pre6 enc Tryz.prog Tryz.f5 Rows.walkStepsRow.domain false) (Rows.walkStepsSpec.post enc Tryz.prog Tryz.f5 false true false false) := by
  refine returnsInHanded_of_change (C := Tryz.checked) own started (by kernel_rfl) Tryz.func5
    (ChangeSpec.witness6 (enc := enc) (C := Tryz.checked) false ⟨#[], #[.agg #[.int .u8 0, .slice none 0 0, .slice none 0 0], .agg #[.int .u64 0, .int .i64 0, .int .i64 0, .int .i64 0, .int .i64 0, .int .u64 0, .int .i64 0, .int .i64 0, .bool false, .bool false], .slice none 0 0], []⟩ 12 (by kernel_rfl) (by kernel_rfl) (by kernel_rfl) (by kernel_rfl)) ?_
  intro W base args ds gs before hval0 hW hcnd _
  have hval : ∀ (j : Nat) t v, Tryz.f5.params[j]? = some t → args[j]? = some v → Value.okWide Tryz.prog W .any base t v := hval0
  have hW' := hW
  obtain ⟨p, q, hA0, hV, rfl, hfz, hnd⟩ := hW
  have hA : DataW.TrodAll enc Tryz.prog W 0 (fun _ => true) true Tryz.f5.params.toList args.toList ds p := hA0
  rw [Tryz.params5] at hA hval
  obtain ⟨v0, vs0, d0, ds0, p0, q0, hargs, rfl, rfl, h0, r0⟩ := trodAll_cons hA
  obtain ⟨v1, vs1, d1, ds1, p1, q1, rfl, rfl, rfl, h1, r1⟩ := trodAll_cons r0
  obtain ⟨v2, vs2, d2, ds2, p2, q2, rfl, rfl, rfl, h2, r2⟩ := trodAll_cons r1
  obtain ⟨rfl, rfl, rfl⟩ := trodAll_nil r2
  obtain rfl : args = #[v0, v1, v2] := by cases args; simp_all
  obtain ⟨rfl, rfl⟩ := trodVars_none hV
  obtain ⟨c0, ia0, ca0, ic0, cc0, hS0, hx0⟩ := open_scene (hval 0 _ v0 rfl rfl) h0
  obtain ⟨x1, rfl, hn1⟩ := open_walk (hval 1 _ v1 rfl rfl) h1
  obtain ⟨ao2, l2, ac2, rfl, hR2, hf2⟩ := open_acts_arg (hval 2 _ v2 rfl rfl) h2
  clear hA0 hval0
  simp only [List.append_nil] at hW'
  refine (steps_walk x1 W hx0 hS0 hR2 hf2).mono fun e W' ⟨he, hb⟩ => ?_
  subst he
  have hlt : ∀ y ∈ p0 ++ (p1 ++ (p2)), y.block < W.heap.size := fun y hy => by simpa using hW'.lt y (by simpa using hy)
  exact ⟨_, rfl, post_new hW' hb (fun _ _ _ => trodAll_cons_mk (shut_bool Tryz.underlying4 _) trodAll_mk0)
    (fun sp hsp => by
      have := (trodAll_cons_mk (WideElems.Trod_stays laidOut (by kernel_rfl) (of_decide_eq_true (by kernel_rfl)) h0 (fun y hy => hb.same (hlt y (List.mem_append_left _ hy))) (fun y hy => hsp y (List.mem_append_left _ hy))) (trodAll_cons_mk (WideElems.Trod_stays laidOut (by kernel_rfl) (of_decide_eq_true (by kernel_rfl)) h1 (fun y hy => hb.same (hlt y (List.mem_append_right _ (List.mem_append_left _ hy)))) (fun y hy => hsp y (List.mem_append_right _ (List.mem_append_left _ hy)))) (trodAll_cons_mk (WideElems.Trod_stays laidOut (by kernel_rfl) (of_decide_eq_true (by kernel_rfl)) h2 (fun y hy => hb.same (hlt y (List.mem_append_right _ (List.mem_append_right _ hy)))) (fun y hy => hsp y (List.mem_append_right _ (List.mem_append_right _ hy)))) trodAll_mk0)))
      simp only [List.append_nil] at this
      exact this)
    (fun _ => rfl) (ok_one (by kernel_rfl) rfl (okWide_bool_mk Tryz.underlying4 _))⟩

theorem over : Rows.walkStepsRow.holds Tryz.pinned (OpenSpec.ofChange Rows.walkStepsSpec) :=
  OpenClaim.holds_of_wide 5 Tryz.f5 rfl rfl rfl rfl rfl rfl rfl ⟨rfl, rfl, rfl, rfl, rfl⟩ rfl rfl rfl rfl rfl (by kernel_rfl) Tryz.func5 (by kernel_rfl)
    (of_decide_eq_true (by kernel_rfl)) (by unfold Func.isWrapper; first | (rw [if_pos (by decide +kernel)]; kernel_rfl) | (rw [if_neg (by decide +kernel)]; exact ⟨rfl, rfl⟩))
    (fun os started H enc _ => lifted os started H enc)

theorem proved : Rows.WalkStepsSaid :=
  over
#print axioms proved
end Go.Proofs.YtccmjljlfgbicaaGreat.walkSteps

