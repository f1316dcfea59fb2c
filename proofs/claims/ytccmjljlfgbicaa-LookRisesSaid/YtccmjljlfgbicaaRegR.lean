/- A region that draws its order, in a round of a loop: one obligation for each operation. Over any program. -/
import Derived.Test.YtccmjljlfgbicaaReg
namespace Go.Proofs.Ytccmjljlfgbicaa
open Go.RowKit

section
variable {P : Program}
theorem wpR_region_J {l' : Nat} {id : Nat} {Q : Exit → Act → World → Prop} {a : Act} {w : World} {l : List Oper} (G : (Nat → Bool) → (Nat → Value) → World → Prop) (hm : P.follows .mixedOrders = true) (hB : (dstsOk l && inTs l a.tmps.size && acyc l 0) = true) (hq : l.all Oper.quits = true)
    (h0 : ∀ us, G (fun _ => false) us w.drew) (hop : EachJ P l (onlyN (Q .normal)) a G l 0) (hend : ∀ dn us w', G dn us w' → (∀ i, i < l.length → dn i = true) → Q .normal (fillA l us a) w') : wpR P l' (.region id l.toArray true) Q a w := by
  refine wpR_mono (wpR_region_draw (Q := onlyN (Q .normal)) (by simpa using (List.all_eq_true.1 hq)) (onlyN_tight _) ?_) ?_
  case refine_2 => rintro e a' w' ⟨rfl, h⟩; exact h
  intro t
  simp only [Region.schedule, hm, Bool.true_or, if_true]
  refine wpAny_sound _ t _ a _ ?_
  simp only [Bool.and_eq_true] at hB
  obtain ⟨⟨hd, hb⟩, hc⟩ := hB
  replace hend : ∀ dn us w', G dn us w' → (∀ i, i < l.length → dn i = true) → onlyN (Q .normal) .normal (fillA l us a) w' := fun dn us w' h1 h2 => ⟨rfl, hend dn us w' h1 h2⟩
  have hself : fillA l (fun j => match (l[j]?).bind (·.dst) with | some d => a.tmps.getD d undef | none => undef) a = a := by
    unfold fillA
    rw [fillT_self]
    intro j o d h1 h2
    simp [h1, h2]
  rw [← hself]
  refine wpAny_J (G := G) hd (fun i o ho e he hbd => by have := acyc_get hc ho e he hbd; omega) ?_ hend _ _ _ _ (by simp) ?_ ?_
  · intro i o ho dn us w1 hG hdn hdep
    have hO := hop.get ho dn us w1 (fillA l us a) (fill_eval hd hb) (fill_yielded hd hb) hG (by rw [Nat.zero_add]; exact hdn) (allD_of fun j hj => by
      obtain ⟨e, he, h2⟩ := List.mem_filterMap.1 hj
      split at h2
      · rename_i hbd
        injection h2 with h2
        rw [← h2]
        exact hdep e (by simpa using he) hbd
      · cases h2) (fun a' w' => ∃ v, a' = (fillA l us a).put o.dst v ∧ G (updB dn i) (updN us i v) w') (fun v w' hg => ⟨v, rfl, by rw [Nat.zero_add] at hg; exact hg⟩)
    unfold wpOp
    rw [show l.toArray[i]? = some o by simpa using ho]
    dsimp only
    split at hO
    · rename_i hw; rw [if_pos hw]; exact .inl hO
    · rename_i hw; rw [if_neg hw]; exact hO
  · unfold unl
    exact Nat.le_trans List.countP_le_length (by simp)
  · have e : (fun i => (Array.replicate l.toArray.size false).getD i false) = fun _ => false := by
      funext i
      by_cases hi : i < l.toArray.size
      · simp [Array.getD, Array.size_replicate]
      · simp [Array.getD, Array.size_replicate]
    rw [e]
    exact h0 _

end
end Go.Proofs.Ytccmjljlfgbicaa
