/- A region that draws its order, in a round of a loop: one obligation for each operation. Over any program. -/
import Derived.Test.YtccmjljlfgbicaaGreatReg
import Derived.Test.YtccmjljlfgbicaaGreatZS
namespace Go.Proofs.YtccmjljlfgbicaaGreat
open Go.RowKit

section
variable {P : Program}
theorem wpR_region_J {l' : Nat} {id : Nat} {Q : Exit → Act → World → Prop} {a : Act} {w : World} {l : List Oper} (G : (Nat → Bool) → (Nat → Value) → World → Prop) (hm : P.follows .mixedOrders = true) (hB : (dstsOk l && inTs l a.tmps.size && acyc l 0) = true) (hq : l.all Oper.quits = true)
    (h0 : ∀ us, G (fun _ => false) us w.drew) (hop : EachJ P l (onlyN (Q .normal)) a G l 0) (hend : ∀ dn us w', G dn us w' → (∀ i, i < l.length → dn i = true) → Q .normal (fillA l us a) w') : wpR P l' (.region id l.toArray true) Q a w := by
  refine wpR_mono (wpR_region_draw (Q := onlyN (Q .normal)) (by simpa using (List.all_eq_true.1 hq)) (onlyN_tight _) ?_) ?_
  case refine_2 => rintro e a' w' ⟨rfl, h⟩; exact h
  intro t
  simp only [Region.schedule, hm, Bool.true_or, if_true]
  refine wpAny_sound _ t _ a _ ?_
  simp only [Bool.and_eq_true] at hB
  obtain ⟨⟨hd, hb⟩, hc⟩ := hB
  replace hend : ∀ dn us w', G dn us w' → (∀ i, i < l.length → dn i = true) → onlyN (Q .normal) .normal (fillA l us a) w' := fun dn us w' h1 h2 => ⟨rfl, hend dn us w' h1 h2⟩
  have hself : fillA l (fun j => match (l[j]?).bind (·.dst) with | some d => a.tmps.getD d undef | none => undef) a = a := by
    unfold fillA
    rw [fillT_self]
    intro j o d h1 h2
    simp [h1, h2]
  rw [← hself]
  refine wpAny_J (G := G) hd (fun i o ho e he hbd => by have := acyc_get hc ho e he hbd; omega) ?_ hend _ _ _ _ (by simp) ?_ ?_
  · intro i o ho dn us w1 hG hdn hdep
    have hO := hop.get ho dn us w1 (fillA l us a) (fill_eval hd hb) (fill_yielded hd hb) hG (by rw [Nat.zero_add]; exact hdn) (allD_of fun j hj => by
      obtain ⟨e, he, h2⟩ := List.mem_filterMap.1 hj
      split at h2
      · rename_i hbd
        injection h2 with h2
        rw [← h2]
        exact hdep e (by simpa using he) hbd
      · cases h2) (fun a' w' => ∃ v, a' = (fillA l us a).put o.dst v ∧ G (updB dn i) (updN us i v) w') (fun v w' hg => ⟨v, rfl, by rw [Nat.zero_add] at hg; exact hg⟩)
    unfold wpOp
    rw [show l.toArray[i]? = some o by simpa using ho]
    dsimp only
    split at hO
    · rename_i hw; rw [if_pos hw]; exact .inl hO
    · rename_i hw; rw [if_neg hw]; exact hO
  · unfold unl
    exact Nat.le_trans List.countP_le_length (by simp)
  · have e : (fun i => (Array.replicate l.toArray.size false).getD i false) = fun _ => false := by
      funext i
      by_cases hi : i < l.toArray.size
      · simp [Array.getD, Array.size_replicate]
      · simp [Array.getD, Array.size_replicate]
    rw [e]
    exact h0 _

end
end Go.Proofs.YtccmjljlfgbicaaGreat

/- Contract of look.sound. Printed by soundgen.py. -/
namespace Go.Proofs.YtccmjljlfgbicaaGreat
open Go.ChangeShapes Go.WideShapes Go.ChangeAt Go.RowKit

/-- What is kept while a set grows and a word is laid. -/
structure SetG2 (gS g8 : Nat) (ik : IntKind) (T : TypeId) (es es' : List Int) (c c' : Array Value) (F : Nat → Value → Prop) (W : World) (dn : Nat → Bool) (us : Nat → Value) (w : World) : Prop where
  only : Only (fun j => j = gS ∨ j = g8) W w
  pre : ∀ j, j ≠ 4 → j ≠ 5 → dn j = true → F j (us j)
  set : SetAt w gS ik (if dn 4 then es' else es)
  at_ : At w g8 T (if dn 5 then c' else c)
section
variable {gS g8 : Nat} {ik : IntKind} {T : TypeId} {es es' : List Int} {c c' : Array Value} {F : Nat → Value → Prop} {W w w' : World} {dn : Nat → Bool} {us : Nat → Value} {v : Value}
theorem SetG2.start (us : Nat → Value) (h : SetAt W gS ik es) (hA : At W g8 T c) : SetG2 gS g8 ik T es es' c c' F W (fun _ => false) us W := ⟨Only.refl _ _, fun _ _ _ e => (by cases e), h, hA⟩
theorem SetG2.first (h : SetG2 gS g8 ik T es es' c c' F W dn us w) {i : Nat} (h1 : i ≠ 4) (h2 : i ≠ 5) (hv : F i v) : SetG2 gS g8 ik T es es' c c' F W (updB dn i) (updN us i v) w := by
  refine ⟨h.only, fun j a b e => ?_, ?_, ?_⟩
  · by_cases q : j = i
    · subst q; rw [updN_eq]; exact hv
    · rw [updB_ne q] at e; rw [updN_ne q]; exact h.pre j a b e
  · rw [updB_ne (Ne.symm h1)]; exact h.set
  · rw [updB_ne (Ne.symm h2)]; exact h.at_
theorem SetG2.oldS (h : SetG2 gS g8 ik T es es' c c' F W dn us w) (hd : dn 4 = false) : SetAt w gS ik es := by have := h.set; rwa [hd] at this
theorem SetG2.oldA (h : SetG2 gS g8 ik T es es' c c' F W dn us w) (hd : dn 5 = false) : At w g8 T c := by have := h.at_; rwa [hd] at this
theorem SetG2.laidS (h : SetG2 gS g8 ik T es es' c c' F W dn us w) (hn : gS ≠ g8) (hO : Only (fun j => j = gS) w w') (hM : SetAt w' gS ik es') : SetG2 gS g8 ik T es es' c c' F W (updB dn 4) (updN us 4 v) w' := by
  refine ⟨h.only.trans (hO.mono fun _ _ => .inl), fun j a b e => ?_, ?_, ?_⟩
  · rw [updB_ne a] at e; rw [updN_ne a]; exact h.pre j a b e
  · rw [updB_eq]; exact hM
  · rw [updB_ne (by decide)]; exact h.at_.only hO (Ne.symm hn)
theorem SetG2.laidA (h : SetG2 gS g8 ik T es es' c c' F W dn us w) (hn : gS ≠ g8) (hO : Only (fun j => j = g8) w w') (hA : At w' g8 T c') : SetG2 gS g8 ik T es es' c c' F W (updB dn 5) (updN us 5 v) w' := by
  refine ⟨h.only.trans (hO.mono fun _ _ => .inr), fun j a b e => ?_, ?_, ?_⟩
  · rw [updB_ne b] at e; rw [updN_ne b]; exact h.pre j a b e
  · rw [updB_ne (by decide)]; exact h.set.only hO hn
  · rw [updB_eq]; exact hA
end

/-- What is known while a bucket's nodes are judged. -/
structure SInv (k : Blks) (bucket : Int) (w : World) (cw lb lm : Nat) (L : Loop) (x : Snd) (w' : World) : Prop where
  loop : LoopAt w' lb L
  mark : w'.heap[lm]? = some (.deferred (some []))
  p2 : At w' (w.heap.size) 32 #[.pointer (some ⟨k.bw, 0, none⟩)]
  p3 : At w' (w.heap.size + 1) 3 #[.int .i64 bucket]
  p4 : At w' (w.heap.size + 1 + 1) 4 #[.bool false]
  s5 : SetAt w' (w.heap.size + 1 + 1 + 1) .i64 x.seen
  s6 : SetAt w' (w.heap.size + 1 + 1 + 1 + 1) .i64 x.again
  s7 : SetAt w' (w.heap.size + 1 + 1 + 1 + 1 + 1) .u64 x.opn
  m5 : At w' (w.heap.size + 1 + 1 + 1 + 1 + 1 + 1) 169 #[.map (some (w.heap.size + 1 + 1 + 1))]
  m6 : At w' (w.heap.size + 1 + 1 + 1 + 1 + 1 + 1 + 1) 169 #[.map (some (w.heap.size + 1 + 1 + 1 + 1))]
  m7 : At w' (w.heap.size + 1 + 1 + 1 + 1 + 1 + 1 + 1 + 1) 215 #[.map (some (w.heap.size + 1 + 1 + 1 + 1 + 1))]
  p8 : At w' (w.heap.size + 1 + 1 + 1 + 1 + 1 + 1 + 1 + 1 + 1) 26 #[.int .u64 x.last]
  cw : w'.cell? ⟨cw, 0, none⟩ = some (.pointer (some ⟨k.bw, 0, none⟩))
  below : Below w.heap.size w w'
section
variable {k : Blks} {bucket : Int} {w : World} {cw lb lm : Nat} {L L' : Loop} {x : Snd} {w1 w2 : World}
theorem SInv.still (h : SInv k bucket w cw lb lm L x w1) (hb : Below w1.heap.size w1 w2) : SInv k bucket w cw lb lm L x w2 :=
  ⟨heap_below h.loop hb, heap_below h.mark hb, h.p2.below' hb, h.p3.below' hb, h.p4.below' hb, h.s5.below hb, h.s6.below hb, h.s7.below hb, h.m5.below' hb, h.m6.below' hb, h.m7.below' hb, h.p8.below' hb, by rw [hb.cell (World.block_lt_of_cell? w1 _ h.cw)]; exact h.cw, h.below.trans (hb.mono h.below.size)⟩
theorem SInv.put (h : SInv k bucket w cw lb lm L x w1) (hlb : w.heap.size + 1 + 1 + 1 + 1 + 1 + 1 + 1 + 1 + 1 < lb) (hlm : lm < lb) (hcw : cw < lb) : SInv k bucket w cw lb lm L' x (putLoop w1 lb L') := by
  refine ⟨putLoop_at h.loop.lt _, (putLoop_heap _ _ _ _ (by omega)).trans h.mark, (putLoop_heap _ _ _ _ (by omega)).trans h.p2, (putLoop_heap _ _ _ _ (by omega)).trans h.p3, (putLoop_heap _ _ _ _ (by omega)).trans h.p4, (putLoop_heap _ _ _ _ (by omega)).trans h.s5, (putLoop_heap _ _ _ _ (by omega)).trans h.s6, (putLoop_heap _ _ _ _ (by omega)).trans h.s7, (putLoop_heap _ _ _ _ (by omega)).trans h.m5, (putLoop_heap _ _ _ _ (by omega)).trans h.m6, (putLoop_heap _ _ _ _ (by omega)).trans h.m7, (putLoop_heap _ _ _ _ (by omega)).trans h.p8, ?_, putLoop_below h.below (by omega) _⟩
  rw [World.cell?_of_block (putLoop_heap w1 lb L' cw (by omega))]; exact h.cw
/-- What was met, and the last key, are laid down. -/
theorem SInv.met (h : SInv k bucket w cw lb lm L x w1) (hlb : w.heap.size + 1 + 1 + 1 + 1 + 1 + 1 + 1 + 1 + 1 < lb) (hlm : w.heap.size + 1 + 1 + 1 + 1 + 1 + 1 + 1 + 1 + 1 < lm) (hcw : w.heap.size + 1 + 1 + 1 + 1 + 1 + 1 + 1 + 1 + 1 < cw) (ho : Only (fun j => j = w.heap.size + 1 + 1 + 1 ∨ j = w.heap.size + 1 + 1 + 1 + 1 + 1 + 1 + 1 + 1 + 1) w1 w2) {es : List Int} {key : Int} (hS : SetAt w2 (w.heap.size + 1 + 1 + 1) .i64 es) (hA : At w2 (w.heap.size + 1 + 1 + 1 + 1 + 1 + 1 + 1 + 1 + 1) 26 #[.int .u64 key]) : SInv k bucket w cw lb lm L { x with seen := es, last := key } w2 :=
  ⟨heap_only h.loop ho (by show ¬ (lb = w.heap.size + 1 + 1 + 1 ∨ lb = w.heap.size + 1 + 1 + 1 + 1 + 1 + 1 + 1 + 1 + 1); omega), heap_only h.mark ho (by show ¬ (lm = w.heap.size + 1 + 1 + 1 ∨ lm = w.heap.size + 1 + 1 + 1 + 1 + 1 + 1 + 1 + 1 + 1); omega), h.p2.only ho (by show ¬ (w.heap.size = w.heap.size + 1 + 1 + 1 ∨ w.heap.size = w.heap.size + 1 + 1 + 1 + 1 + 1 + 1 + 1 + 1 + 1); omega), h.p3.only ho (by show ¬ (w.heap.size + 1 = w.heap.size + 1 + 1 + 1 ∨ w.heap.size + 1 = w.heap.size + 1 + 1 + 1 + 1 + 1 + 1 + 1 + 1 + 1); omega), h.p4.only ho (by show ¬ (w.heap.size + 1 + 1 = w.heap.size + 1 + 1 + 1 ∨ w.heap.size + 1 + 1 = w.heap.size + 1 + 1 + 1 + 1 + 1 + 1 + 1 + 1 + 1); omega), hS, h.s6.only ho (by show ¬ (w.heap.size + 1 + 1 + 1 + 1 = w.heap.size + 1 + 1 + 1 ∨ w.heap.size + 1 + 1 + 1 + 1 = w.heap.size + 1 + 1 + 1 + 1 + 1 + 1 + 1 + 1 + 1); omega), h.s7.only ho (by show ¬ (w.heap.size + 1 + 1 + 1 + 1 + 1 = w.heap.size + 1 + 1 + 1 ∨ w.heap.size + 1 + 1 + 1 + 1 + 1 = w.heap.size + 1 + 1 + 1 + 1 + 1 + 1 + 1 + 1 + 1); omega), h.m5.only ho (by show ¬ (w.heap.size + 1 + 1 + 1 + 1 + 1 + 1 = w.heap.size + 1 + 1 + 1 ∨ w.heap.size + 1 + 1 + 1 + 1 + 1 + 1 = w.heap.size + 1 + 1 + 1 + 1 + 1 + 1 + 1 + 1 + 1); omega), h.m6.only ho (by show ¬ (w.heap.size + 1 + 1 + 1 + 1 + 1 + 1 + 1 = w.heap.size + 1 + 1 + 1 ∨ w.heap.size + 1 + 1 + 1 + 1 + 1 + 1 + 1 = w.heap.size + 1 + 1 + 1 + 1 + 1 + 1 + 1 + 1 + 1); omega), h.m7.only ho (by show ¬ (w.heap.size + 1 + 1 + 1 + 1 + 1 + 1 + 1 + 1 = w.heap.size + 1 + 1 + 1 ∨ w.heap.size + 1 + 1 + 1 + 1 + 1 + 1 + 1 + 1 = w.heap.size + 1 + 1 + 1 + 1 + 1 + 1 + 1 + 1 + 1); omega), hA, cell_only h.cw ho (by show ¬ (cw = w.heap.size + 1 + 1 + 1 ∨ cw = w.heap.size + 1 + 1 + 1 + 1 + 1 + 1 + 1 + 1 + 1); omega), h.below.trans (ho.below h.below.size fun i hi e => by have e' : i = w.heap.size + 1 + 1 + 1 ∨ i = w.heap.size + 1 + 1 + 1 + 1 + 1 + 1 + 1 + 1 + 1 := e; omega)⟩
theorem SInv.agn (h : SInv k bucket w cw lb lm L x w1) (hlb : w.heap.size + 1 + 1 + 1 + 1 + 1 + 1 + 1 + 1 + 1 < lb) (hlm : w.heap.size + 1 + 1 + 1 + 1 + 1 + 1 + 1 + 1 + 1 < lm) (hcw : w.heap.size + 1 + 1 + 1 + 1 + 1 + 1 + 1 + 1 + 1 < cw) (ho : Only (fun j => j = w.heap.size + 1 + 1 + 1 + 1) w1 w2) {es : List Int} (hS : SetAt w2 (w.heap.size + 1 + 1 + 1 + 1) .i64 es) : SInv k bucket w cw lb lm L { x with again := es } w2 :=
  ⟨heap_only h.loop ho (by show ¬ lb = w.heap.size + 1 + 1 + 1 + 1; omega), heap_only h.mark ho (by show ¬ lm = w.heap.size + 1 + 1 + 1 + 1; omega), h.p2.only ho (by show ¬ w.heap.size = w.heap.size + 1 + 1 + 1 + 1; omega), h.p3.only ho (by show ¬ w.heap.size + 1 = w.heap.size + 1 + 1 + 1 + 1; omega), h.p4.only ho (by show ¬ w.heap.size + 1 + 1 = w.heap.size + 1 + 1 + 1 + 1; omega), h.s5.only ho (by show ¬ w.heap.size + 1 + 1 + 1 = w.heap.size + 1 + 1 + 1 + 1; omega), hS, h.s7.only ho (by show ¬ w.heap.size + 1 + 1 + 1 + 1 + 1 = w.heap.size + 1 + 1 + 1 + 1; omega), h.m5.only ho (by show ¬ w.heap.size + 1 + 1 + 1 + 1 + 1 + 1 = w.heap.size + 1 + 1 + 1 + 1; omega), h.m6.only ho (by show ¬ w.heap.size + 1 + 1 + 1 + 1 + 1 + 1 + 1 = w.heap.size + 1 + 1 + 1 + 1; omega), h.m7.only ho (by show ¬ w.heap.size + 1 + 1 + 1 + 1 + 1 + 1 + 1 + 1 = w.heap.size + 1 + 1 + 1 + 1; omega), h.p8.only ho (by show ¬ w.heap.size + 1 + 1 + 1 + 1 + 1 + 1 + 1 + 1 + 1 = w.heap.size + 1 + 1 + 1 + 1; omega), cell_only h.cw ho (by show ¬ cw = w.heap.size + 1 + 1 + 1 + 1; omega), h.below.trans (ho.below h.below.size fun i hi e => by have e' : i = w.heap.size + 1 + 1 + 1 + 1 := e; omega)⟩
theorem SInv.opns (h : SInv k bucket w cw lb lm L x w1) (hlb : w.heap.size + 1 + 1 + 1 + 1 + 1 + 1 + 1 + 1 + 1 < lb) (hlm : w.heap.size + 1 + 1 + 1 + 1 + 1 + 1 + 1 + 1 + 1 < lm) (hcw : w.heap.size + 1 + 1 + 1 + 1 + 1 + 1 + 1 + 1 + 1 < cw) (ho : Only (fun j => j = w.heap.size + 1 + 1 + 1 + 1 + 1) w1 w2) {es : List Int} (hS : SetAt w2 (w.heap.size + 1 + 1 + 1 + 1 + 1) .u64 es) : SInv k bucket w cw lb lm L { x with opn := es } w2 :=
  ⟨heap_only h.loop ho (by show ¬ lb = w.heap.size + 1 + 1 + 1 + 1 + 1; omega), heap_only h.mark ho (by show ¬ lm = w.heap.size + 1 + 1 + 1 + 1 + 1; omega), h.p2.only ho (by show ¬ w.heap.size = w.heap.size + 1 + 1 + 1 + 1 + 1; omega), h.p3.only ho (by show ¬ w.heap.size + 1 = w.heap.size + 1 + 1 + 1 + 1 + 1; omega), h.p4.only ho (by show ¬ w.heap.size + 1 + 1 = w.heap.size + 1 + 1 + 1 + 1 + 1; omega), h.s5.only ho (by show ¬ w.heap.size + 1 + 1 + 1 = w.heap.size + 1 + 1 + 1 + 1 + 1; omega), h.s6.only ho (by show ¬ w.heap.size + 1 + 1 + 1 + 1 = w.heap.size + 1 + 1 + 1 + 1 + 1; omega), hS, h.m5.only ho (by show ¬ w.heap.size + 1 + 1 + 1 + 1 + 1 + 1 = w.heap.size + 1 + 1 + 1 + 1 + 1; omega), h.m6.only ho (by show ¬ w.heap.size + 1 + 1 + 1 + 1 + 1 + 1 + 1 = w.heap.size + 1 + 1 + 1 + 1 + 1; omega), h.m7.only ho (by show ¬ w.heap.size + 1 + 1 + 1 + 1 + 1 + 1 + 1 + 1 = w.heap.size + 1 + 1 + 1 + 1 + 1; omega), h.p8.only ho (by show ¬ w.heap.size + 1 + 1 + 1 + 1 + 1 + 1 + 1 + 1 + 1 = w.heap.size + 1 + 1 + 1 + 1 + 1; omega), cell_only h.cw ho (by show ¬ cw = w.heap.size + 1 + 1 + 1 + 1 + 1; omega), h.below.trans (ho.below h.below.size fun i hi e => by have e' : i = w.heap.size + 1 + 1 + 1 + 1 + 1 := e; omega)⟩
/-- A node that isn't sound was met. -/
structure SStop (w : World) (lb lm : Nat) (w' : World) : Prop where
  loop : ∃ L, LoopAt w' lb L ∧ L.state ≠ .busy ∧ L.pending = some .ret
  mark : w'.heap[lm]? = some (.deferred (some []))
  p4 : At w' (w.heap.size + 1 + 1) 4 #[.bool false]
  below : Below w.heap.size w w'
theorem SInv.stop (h : SInv k bucket w cw lb lm L x w1) (hlb : w.heap.size + 1 + 1 + 1 + 1 + 1 + 1 + 1 + 1 + 1 < lb) (hlm : lm < lb) (hlm9 : w.heap.size + 1 + 1 + 1 + 1 + 1 + 1 + 1 + 1 + 1 < lm) (ho : Only (fun j => j = w.heap.size + 1 + 1) w1 w2) (hA : At w2 (w.heap.size + 1 + 1) 4 #[.bool false]) : LoopAt w2 lb L ∧ SStop w lb lm (putLoop w2 lb (roundEnd L (some .ret))) := by
  have hl := heap_only h.loop ho (by show ¬ lb = w.heap.size + 1 + 1; omega)
  have hB : Below w.heap.size w w2 := h.below.trans (ho.below h.below.size fun i hi e => by have e' : i = w.heap.size + 1 + 1 := e; omega)
  exact ⟨hl, ⟨_, putLoop_at (LoopAt.lt hl) _, by simp [roundEnd], rfl⟩, (putLoop_heap _ _ _ _ (by omega)).trans (heap_only h.mark ho (by show ¬ lm = w.heap.size + 1 + 1; omega)), (putLoop_heap _ _ _ _ (by omega)).trans hA, putLoop_below hB (by omega) _⟩
end
/-- The states that a run of nodes leaves behind. -/
def Vw.sndSt (v : Vw) (b : Int) : Snd → List Int → Option Snd
  | x, [] => some x
  | x, n :: l => match v.sndStep b x n with
    | none => none
    | some y => v.sndSt b y l
theorem sndSt_snoc (v : Vw) (b n : Int) : ∀ (A : List Int) (x : Snd), v.sndSt b x (A ++ [n]) = (v.sndSt b x A).bind fun y => v.sndStep b y n
  | [], x => by
    show (match v.sndStep b x n with | none => none | some y => some y) = v.sndStep b x n
    cases v.sndStep b x n <;> rfl
  | a :: A, x => by
    show (match v.sndStep b x a with | none => none | some y => v.sndSt b y (A ++ [n])) = (match v.sndStep b x a with | none => none | some y => v.sndSt b y A).bind _
    cases v.sndStep b x a with
    | none => rfl
    | some y => exact sndSt_snoc v b n A y
theorem sndRun_st (v : Vw) (b : Int) : ∀ (A : List Int) (x : Snd), v.sndRun b x A = (v.sndSt b x A).isSome
  | [], x => rfl
  | a :: A, x => by
    show (match v.sndStep b x a with | none => false | some y => v.sndRun b y A) = (match v.sndStep b x a with | none => none | some y => v.sndSt b y A).isSome
    cases v.sndStep b x a with
    | none => rfl
    | some y => exact sndRun_st v b A y
theorem sndSt_none (v : Vw) (b : Int) : ∀ (A B : List Int) (x : Snd), v.sndSt b x A = none → v.sndSt b x (A ++ B) = none
  | [], B, x, h => by cases h
  | a :: A, B, x, h => by
    show (match v.sndStep b x a with | none => none | some y => v.sndSt b y (A ++ B)) = none
    have h' : (match v.sndStep b x a with | none => none | some y => v.sndSt b y A) = none := h
    cases hs : v.sndStep b x a with
    | none => rfl
    | some y => rw [hs] at h'; exact sndSt_none v b A B y h'

/-- A result of one cell. -/
theorem res_one {P : Program} {fn : Func} {p : Tmp} {tp : TypeId} (h : fn.results = #[.cell p tp]) (tmps : Array Value) (w : World) (g : Nat) (t : TypeId) (b : Bool) (hp : tmps.getD p undef = .pointer (some ⟨g, 0, none⟩)) (hA : At w g t #[.bool b]) (hu : P.underlying tp = some .bool) (_hi : (P.info? tp).map (·.size) = some 1) :
    (results fn tmps).run P w = .ok (.bool b) w := by
  have c := hA.cell 0
  have hl : (loadVar tp ⟨g, 0, none⟩).run P w = .ok (.bool b) w := by
    have hagg : (isAgg tp).run P w = .ok false w := by
      unfold isAgg
      rw [Sem.run_bind, run_underlying hu w]
      rfl
    have c' : w.cell? ⟨g, 0, none⟩ = some (.bool b) := c
    simp [loadVar, Sem.run_bind, hagg, run_load, c']
  simp only [results, h]
  rw [Array.getD_eq_getD_getElem?] at hp
  simp [hp, asAddr, hl]
set_option maxRecDepth 100000 in
set_option maxHeartbeats 8000000 in
theorem lsound_any {k : Blks} {s : St} (bucket : Int) (w : World) (h : Holds k s w) :
    Calls Tryz.prog 94 #[.pointer (some ⟨k.bw, 0, none⟩), .int .i64 bucket] w fun e w' => e = .returned (.bool (s.vw.sndRun bucket ⟨[], [], [], 0⟩ (s.chain bucket))) ∧ Below w.heap.size w w' := by
  have H := Lib.hid h
  have HM := Lib.hid h.ok.may
  have A2 := ((At.new w 32 #[.pointer (some ⟨k.bw, 0, none⟩)]).alloc (.cells #[.int .i64 bucket] 3)).alloc (.cells #[.bool false] 4)
  have A3 := (At.new1 w (.cells #[.pointer (some ⟨k.bw, 0, none⟩)] 32) 3 #[.int .i64 bucket]).alloc (.cells #[.bool false] 4)
  have A4 := At.new1 (w.alloc (.cells #[.pointer (some ⟨k.bw, 0, none⟩)] 32)) (.cells #[.int .i64 bucket] 3) 4 #[.bool false]
  rw [World.size_alloc] at A4
  have DA : Below w.heap.size w (((w.alloc (.cells #[.pointer (some ⟨k.bw, 0, none⟩)] 32)).alloc (.cells #[.int .i64 bucket] 3)).alloc (.cells #[.bool false] 4)) := (below_twice w _ _).alloc (by simp; omega) _
  have zA : (((w.alloc (.cells #[.pointer (some ⟨k.bw, 0, none⟩)] 32)).alloc (.cells #[.int .i64 bucket] 3)).alloc (.cells #[.bool false] 4)).heap.size = w.heap.size + 1 + 1 + 1 := by simp
  clear h
  refine callsC_of_wp Tryz.func94 rfl ?_
  simp only [Tryz.ntmps94, List.size_toArray, List.length_cons, List.length_nil, Nat.reduceAdd, Nat.reduceSub, Array.replicate_succ, Array.replicate_zero, List.push_toArray, List.append_toArray, List.nil_append, List.cons_append]
  go_upto_region 1 with fail
  generalize ((w.alloc (.cells #[.pointer (some ⟨k.bw, 0, none⟩)] 32)).alloc (.cells #[.int .i64 bucket] 3)).alloc (.cells #[.bool false] 4) = wA at *
  go_upto_region 2 with (first
    | (refine wpl_op (by rfl) (op_makeSet 169 rfl .i64 fun _ => ?_))
    | (refine wpl_op (by rfl) (op_makeSet 215 rfl .u64 fun _ => ?_)))
  have S5 := (((((SetAt.new wA .i64).alloc (.map #[] 0)).alloc (.map #[] 0)).alloc (.cells #[.map (some (w.heap.size + 1 + 1 + 1))] 169)).alloc (.cells #[.map (some (w.heap.size + 1 + 1 + 1 + 1))] 169)).alloc (.cells #[.map (some (w.heap.size + 1 + 1 + 1 + 1 + 1))] 215)
  have S6 := ((((SetAt.new (wA.alloc (.map #[] 0)) .i64).alloc (.map #[] 0)).alloc (.cells #[.map (some (w.heap.size + 1 + 1 + 1))] 169)).alloc (.cells #[.map (some (w.heap.size + 1 + 1 + 1 + 1))] 169)).alloc (.cells #[.map (some (w.heap.size + 1 + 1 + 1 + 1 + 1))] 215)
  have S7 := (((SetAt.new ((wA.alloc (.map #[] 0)).alloc (.map #[] 0)) .u64).alloc (.cells #[.map (some (w.heap.size + 1 + 1 + 1))] 169)).alloc (.cells #[.map (some (w.heap.size + 1 + 1 + 1 + 1))] 169)).alloc (.cells #[.map (some (w.heap.size + 1 + 1 + 1 + 1 + 1))] 215)
  have M5 := ((At.new (((wA.alloc (.map #[] 0)).alloc (.map #[] 0)).alloc (.map #[] 0)) 169 #[.map (some (w.heap.size + 1 + 1 + 1))]).alloc (.cells #[.map (some (w.heap.size + 1 + 1 + 1 + 1))] 169)).alloc (.cells #[.map (some (w.heap.size + 1 + 1 + 1 + 1 + 1))] 215)
  have M6 := (At.new ((((wA.alloc (.map #[] 0)).alloc (.map #[] 0)).alloc (.map #[] 0)).alloc (.cells #[.map (some (w.heap.size + 1 + 1 + 1))] 169)) 169 #[.map (some (w.heap.size + 1 + 1 + 1 + 1))]).alloc (.cells #[.map (some (w.heap.size + 1 + 1 + 1 + 1 + 1))] 215)
  have M7 := At.new (((((wA.alloc (.map #[] 0)).alloc (.map #[] 0)).alloc (.map #[] 0)).alloc (.cells #[.map (some (w.heap.size + 1 + 1 + 1))] 169)).alloc (.cells #[.map (some (w.heap.size + 1 + 1 + 1 + 1))] 169)) 215 #[.map (some (w.heap.size + 1 + 1 + 1 + 1 + 1))]
  have DB : Below wA.heap.size wA ((((((wA.alloc (.map #[] 0)).alloc (.map #[] 0)).alloc (.map #[] 0)).alloc (.cells #[.map (some (w.heap.size + 1 + 1 + 1))] 169)).alloc (.cells #[.map (some (w.heap.size + 1 + 1 + 1 + 1))] 169)).alloc (.cells #[.map (some (w.heap.size + 1 + 1 + 1 + 1 + 1))] 215)) := (((((((Below.refl _ wA).alloc (Nat.le_refl _) _).alloc (by simp) _).alloc (by simp; omega) _).alloc (by simp; omega) _).alloc (by simp; omega) _).alloc (by simp; omega) _)
  simp only [World.size_alloc, zA] at S5 S6 S7 M5 M6 M7
  have zB : ((((((wA.alloc (.map #[] 0)).alloc (.map #[] 0)).alloc (.map #[] 0)).alloc (.cells #[.map (some (w.heap.size + 1 + 1 + 1))] 169)).alloc (.cells #[.map (some (w.heap.size + 1 + 1 + 1 + 1))] 169)).alloc (.cells #[.map (some (w.heap.size + 1 + 1 + 1 + 1 + 1))] 215)).heap.size = w.heap.size + 1 + 1 + 1 + 1 + 1 + 1 + 1 + 1 + 1 := by simp [zA]
  generalize (((((wA.alloc (.map #[] 0)).alloc (.map #[] 0)).alloc (.map #[] 0)).alloc (.cells #[.map (some (w.heap.size + 1 + 1 + 1))] 169)).alloc (.cells #[.map (some (w.heap.size + 1 + 1 + 1 + 1))] 169)).alloc (.cells #[.map (some (w.heap.size + 1 + 1 + 1 + 1 + 1))] 215) = wB at *
  go_upto_region 3 with fail
  have A8 := At.new wB 26 #[.int .u64 0]
  have DC : Below wB.heap.size wB (wB.alloc (.cells #[.int .u64 0] 26)) := (Below.refl _ wB).alloc (Nat.le_refl _) _
  have zC : (wB.alloc (.cells #[.int .u64 0] 26)).heap.size = w.heap.size + 1 + 1 + 1 + 1 + 1 + 1 + 1 + 1 + 1 + 1 := by simp [zB]
  rw [zB] at A8
  generalize wB.alloc (.cells #[.int .u64 0] 26) = wC at *
  have B2 := (A2.below' DB).below' DC
  have B3 := (A3.below' DB).below' DC
  have B4 := (A4.below' DB).below' DC
  have D4 : Below w.heap.size w wC := (DA.trans (DB.mono DA.size)).trans (DC.mono (by have := DA.size; have := DB.size; omega))
  have c2 : wC.cell? ⟨w.heap.size, 0, none⟩ = some (.pointer (some ⟨k.bw, 0, none⟩)) := B2.cell 0
  have c3 : wC.cell? ⟨w.heap.size + 1, 0, none⟩ = some (.int .i64 bucket) := B3.cell 0
  have T5 := S5.below DC
  have T6 := S6.below DC
  have T7 := S7.below DC
  have U5 := M5.below' DC
  have U6 := M6.below' DC
  have U7 := M7.below' DC
  have ZC := Lib.hid zC
  clear A2 A3 A4 S5 S6 S7 M5 M6 M7 DA DB DC zA zB zC
  go_wp2_with (go_at_call 96; refine (nodes_any k bucket _).mono ?_; rintro e w5 ⟨rfl, q0, q1, hb5⟩)
  refine wp_rangeFunc_new (g := 166) rfl Tryz.func166 rfl rfl ?_
  intro fn W1 L hL f1 f2 f3
  have HL := Lib.hid hL
  have hs : L.state = .ready := by rw [hL]; rfl
  have hp : L.pending = none := by rw [hL]; rfl
  have hpa : L.params = #[20] := by rw [hL]; rfl
  clear hL
  have zC1 : w.heap.size + 1 + 1 + 1 + 1 + 1 + 1 + 1 + 1 + 1 + 1 ≤ wC.heap.size := Nat.le_of_eq ZC.out.symm
  have zC2 : wC.heap.size ≤ w.heap.size + 1 + 1 + 1 + 1 + 1 + 1 + 1 + 1 + 1 + 1 := Nat.le_of_eq ZC.out
  have z45 := hb5.size
  have zcw := World.block_lt_of_cell? w5 _ q0
  have zcb := World.block_lt_of_cell? w5 _ q1
  have hb4 : Below wC.heap.size wC W1 := hb5.trans (f3.mono hb5.size)
  refine (nodes1_any (k := k) (s := s) bucket wC.heap.size (wC.heap.size + 1) (w5.heap.size + 1) W1 (fun j w' => ∃ x, s.vw.sndSt bucket ⟨[], [], [], 0⟩ ((s.chain bucket).take j) = some x ∧ SInv k bucket w wC.heap.size (w5.heap.size + 1) w5.heap.size L x w') (fun w' => SStop w (w5.heap.size + 1) w5.heap.size w' ∧ s.vw.sndSt bucket ⟨[], [], [], 0⟩ (s.chain bucket) = none) ?hI ?hB ?hY ?h0 ?q1).mono ?_
  case h0 => exact ⟨_, rfl, f1, f2, B2.below' hb4, B3.below' hb4, B4.below' hb4, T5.below hb4, T6.below hb4, T7.below hb4, U5.below' hb4, U6.below' hb4, U7.below' hb4, A8.below' hb4, by rw [f3.cell zcw]; exact q0, D4.trans (hb4.mono D4.size)⟩
  case hI => rintro j w' ⟨x, _, hC⟩; exact ⟨H.out.below hC.below, hC.cw⟩
  case hB => rintro j w1 w2 ⟨x, hx, h1⟩ h2; exact ⟨x, hx, h1.still h2⟩
  case q1 => rw [f3.cell zcb]; exact q1
  case hY =>
    rintro j n w' hn ⟨x, hx, hC⟩
    have HX := Lib.hid hx
    clear hx
    have hpi := hC.put (L' := { L with state := .busy }) (by omega) (by omega) (by omega)
    refine yieldsTo_one hC.loop hpa ?_
    have ea := congrArg Loop.assign HL.out
    have eb := congrArg Loop.body HL.out
    have et := congrArg Loop.tmps HL.out
    rw [ea, eb, et]
    clear ea eb et
    simp only [newLoop, List.setIfInBounds_toArray, List.set_cons_succ, List.set_cons_zero]
    refine wpR_region_lit rfl ?_
    go_wp2_with fail
    refine ⟨rfl, L, hC.loop, hs, ?_⟩
    have HT := Lib.hid (show (s.chain bucket).take (j + 1) = (s.chain bucket).take j ++ [n] by rw [List.take_add_one, hn]; rfl)
    generalize putLoop w' (w5.heap.size + 1) { L with state := .busy } = W2 at *
    have HP := Lib.hid hpi
    have HH := Lib.hid (H.out.below hpi.below)
    have zlb := hpi.loop.lt
    have c0 : W2.cell? ⟨w.heap.size, 0, none⟩ = some (.pointer (some ⟨k.bw, 0, none⟩)) := hpi.p2.cell 0
    obtain ⟨-, g5, g6, glw⟩ := HH.out.wfacts
    clear hpi hC c2 c3 q0 q1 zcb hn
    obtain ⟨op, hop⟩ : ∃ op, op = s.carried n := ⟨_, rfl⟩
    have HOP := Lib.hid hop
    have HOPV := Lib.hid (show s.vw.op n = op from hop.symm)
    clear hop
    refine wpR_block ?_
    refine wpR_seq_k fun K1 hK1 => ?_
    refine wpR_region_lit rfl ?_
    go_wp2_with (go_at_call 38; refine (carried_any n _ HH.out).mono ?_; rw [← HOP.out]; rintro e w3 ⟨rfl, rfl⟩)
    refine ⟨rfl, hK1 _ _ ?_⟩
    refine wpR_seq_k fun K2 hK2 => ?_
    refine wpR_region_lit rfl ?_
    go_wp2_with (first
      | (refine wpl_st rfl 28 _ _ rfl (s.call op).c rfl _ rfl (At.new wc _ _) (by kernel_rfl) rfl rfl rfl ?_; intro wd A11 O11)
      | (go_at_call 113; refine (lcall_any op _ HH.out).mono ?_; rintro e wc ⟨rfl, hbc⟩))
    refine ⟨rfl, hK2 _ _ ?_⟩
    have zwc := hbc.size
    have Dcd : Below wc.heap.size wc wd := ((Below.refl _ wc).alloc (Nat.le_refl _) _).trans (O11.below (by simp) fun j hj e => by have e' : j = wc.heap.size := e; omega)
    clear HH c0 g5 g6 glw
    have HS := Lib.hid ((HP.out.still hbc).still Dcd)
    have e2c : wd.cell? ⟨w.heap.size, 0, none⟩ = some (.pointer (some ⟨k.bw, 0, none⟩)) := HS.out.p2.cell 0
    have e3c : wd.cell? ⟨w.heap.size + 1, 0, none⟩ = some (.int .i64 bucket) := HS.out.p3.cell 0
    have e5c : wd.cell? ⟨w.heap.size + 1 + 1 + 1 + 1 + 1 + 1, 0, none⟩ = some (.map (some (w.heap.size + 1 + 1 + 1))) := HS.out.m5.cell 0
    have e6c : wd.cell? ⟨w.heap.size + 1 + 1 + 1 + 1 + 1 + 1 + 1, 0, none⟩ = some (.map (some (w.heap.size + 1 + 1 + 1 + 1))) := HS.out.m6.cell 0
    have e7c : wd.cell? ⟨w.heap.size + 1 + 1 + 1 + 1 + 1 + 1 + 1 + 1, 0, none⟩ = some (.map (some (w.heap.size + 1 + 1 + 1 + 1 + 1))) := HS.out.m7.cell 0
    have e8c : wd.cell? ⟨w.heap.size + 1 + 1 + 1 + 1 + 1 + 1 + 1 + 1 + 1, 0, none⟩ = some (.int .u64 _) := HS.out.p8.cell 0
    have HH := Lib.hid (H.out.below HS.out.below)
    obtain ⟨⟨eb0, eb1, eb2, eb3, eb4⟩, eb5, eb6, ebl⟩ := HH.out.wfacts
    have eky : wd.cell? ⟨wc.heap.size, 1, none⟩ = some (.int .u64 (s.call op).key) := A11.cell 1
    clear O11 Dcd
    have HPK := Lib.hid (peek_range HH.out.ok (s.nextAt n))
    have hkey : s.vw.key n = (s.call op).key := by rw [← HOPV.out]; rfl
    have HKEY := Lib.hid hkey
    have hins := insertOf_iff s op
    have HINS := Lib.hid hins
    clear hkey hins
    by_cases hc1 : s.vw.kd (s.vw.op n) ≠ 1 ∨ n ∈ x.seen ∨ s.vw.key n < x.last ∨ s.vw.bk (s.vw.key n) ≠ bucket
    · have HC1 := Lib.hid hc1
      cases hio : s.insertOf op with
      | false =>
        have hst : s.vw.sndStep bucket x n = none := by
          unfold Vw.sndStep
          exact if_pos HC1.out
        have hnone : s.vw.sndSt bucket ⟨[], [], [], 0⟩ (s.chain bucket) = none := by
          have h1 : s.vw.sndSt bucket ⟨[], [], [], 0⟩ ((s.chain bucket).take (j + 1)) = none := by rw [HT.out, sndSt_snoc, HX.out]; exact hst
          have h2 := sndSt_none s.vw bucket ((s.chain bucket).take (j + 1)) ((s.chain bucket).drop (j + 1)) _ h1
          rwa [List.take_append_drop] at h2
        refine wpR_seq_k fun K2 hK2 => ?_
        refine wpR_seq_k fun K3 hK3 => ?_
        refine wpR_region_J (l := [_, _, _, _, _, _, _, _, _, _, _, _, _, _, _, _, _, _, _, _, _, _, _, _, _]) (QG (fun j v => match j with | 0 => v = .bool false | 1 => v = .bool true | 2 => v = .bool true | 6 => v = .bool true | 7 => v = .bool true | 12 => v = .bool true | 13 => v = .bool true | 24 => v = .bool true | _ => True) wd) (by kernel_rfl) (by kernel_rfl) (by rfl) (fun us => QG.start us) ⟨?_, ?_, ?_, ?_, ?_, ?_, ?_, ?_, ?_, ?_, ?_, ?_, ?_, ?_, ?_, ?_, ?_, ?_, ?_, ?_, ?_, ?_, ?_, ?_, ?_, trivial⟩ ?_
        · intro dn us w6 A hev hy hG hdn hdep K hK
          have e0 : A.eval (.tmp 12) = .bool false := by rw [hev]; rfl
          rw [if_pos (by rfl)]
          unfold Oper.wp execOp
          generalize A.eval = ev at e0 ⊢
          go_simp
          exact hK _ _ (hG.first (by first | rfl | (simp; done) | (simp; omega) | (simp; assumption)))
        · intro dn us w6 A hev hy hG hdn hdep K hK
          have d0 : dn 0 = true := allD_mem hdep (by decide)
          have e0 : A.eval (.tmp 33) = .bool false := by rw [hev]; exact hG.pre 0 d0
          rw [if_pos (by rfl)]
          unfold Oper.wp execOp
          generalize A.eval = ev at e0 ⊢
          go_simp
          exact hK _ _ (hG.first (by first | rfl | (simp; done) | (simp; omega) | (simp; assumption)))
        · intro dn us w6 A hev hy hG hdn hdep K hK
          have d1 : dn 1 = true := allD_mem hdep (by decide)
          have e0 : A.eval (.tmp 34) = .bool true := by rw [hev]; exact hG.pre 1 d1
          rw [if_pos (by rfl)]
          unfold Oper.wp execOp
          generalize A.eval = ev at e0 ⊢
          go_simp
          exact hK _ _ (hG.first (by first | rfl | (simp; done) | (simp; omega) | (simp; assumption)))
        · intro dn us w6 A hev hy hG hdn hdep K hK
          have d2 : dn 2 = true := allD_mem hdep (by decide)
          have cc0 : w6.cell? ⟨w.heap.size + 1 + 1 + 1 + 1 + 1 + 1, 0, none⟩ = some (.map (some (w.heap.size + 1 + 1 + 1))) := by rw [hG.below.cell (World.block_lt_of_cell? _ _ e5c)]; exact e5c
          have hg : us 2 = .bool true := hG.pre 2 d2
          rw [if_neg (by rw [hy]; show ¬ ((match us 2 with | .bool b => some b | _ => none) == some false) = true; rw [hg]; decide)]
          exact hK _ _ (hG.first trivial)
        · intro dn us w6 A hev hy hG hdn hdep K hK
          have d2 : dn 2 = true := allD_mem hdep (by decide)
          have hg : us 2 = .bool true := hG.pre 2 d2
          rw [if_neg (by rw [hy]; show ¬ ((match us 2 with | .bool b => some b | _ => none) == some false) = true; rw [hg]; decide)]
          exact hK _ _ (hG.first trivial)
        · intro dn us w6 A hev hy hG hdn hdep K hK
          have d2 : dn 2 = true := allD_mem hdep (by decide)
          have hg : us 2 = .bool true := hG.pre 2 d2
          rw [if_neg (by rw [hy]; show ¬ ((match us 2 with | .bool b => some b | _ => none) == some false) = true; rw [hg]; decide)]
          exact hK _ _ (hG.first trivial)
        · intro dn us w6 A hev hy hG hdn hdep K hK
          have d2 : dn 2 = true := allD_mem hdep (by decide)
          have e0 : A.eval (.tmp 35) = .bool true := by rw [hev]; exact hG.pre 2 d2
          have e1 : A.eval (.const (.bool true)) = .bool true := by rw [hev]; rfl
          rw [if_pos (by rfl)]
          unfold Oper.wp execOp
          generalize A.eval = ev at e0 e1 ⊢
          go_simp
          exact hK _ _ (hG.first (by first | rfl | (simp; done) | (simp; omega) | (simp; assumption)))
        · intro dn us w6 A hev hy hG hdn hdep K hK
          have d6 : dn 6 = true := allD_mem hdep (by decide)
          have e0 : A.eval (.tmp 39) = .bool true := by rw [hev]; exact hG.pre 6 d6
          rw [if_pos (by rfl)]
          unfold Oper.wp execOp
          generalize A.eval = ev at e0 ⊢
          go_simp
          exact hK _ _ (hG.first (by first | rfl | (simp; done) | (simp; omega) | (simp; assumption)))
        · intro dn us w6 A hev hy hG hdn hdep K hK
          have d7 : dn 7 = true := allD_mem hdep (by decide)
          have hg : us 7 = .bool true := hG.pre 7 d7
          rw [if_neg (by rw [hy]; show ¬ ((match us 7 with | .bool b => some b | _ => none) == some false) = true; rw [hg]; decide)]
          exact hK _ _ (hG.first trivial)
        · intro dn us w6 A hev hy hG hdn hdep K hK
          have d7 : dn 7 = true := allD_mem hdep (by decide)
          have cc0 : w6.cell? ⟨wc.heap.size, 1, none⟩ = some (.int .u64 (s.call op).key) := by rw [hG.below.cell (World.block_lt_of_cell? _ _ eky)]; exact eky
          have hg : us 7 = .bool true := hG.pre 7 d7
          rw [if_neg (by rw [hy]; show ¬ ((match us 7 with | .bool b => some b | _ => none) == some false) = true; rw [hg]; decide)]
          exact hK _ _ (hG.first trivial)
        · intro dn us w6 A hev hy hG hdn hdep K hK
          have d7 : dn 7 = true := allD_mem hdep (by decide)
          have cc0 : w6.cell? ⟨w.heap.size + 1 + 1 + 1 + 1 + 1 + 1 + 1 + 1 + 1, 0, none⟩ = some (.int .u64 x.last) := by rw [hG.below.cell (World.block_lt_of_cell? _ _ e8c)]; exact e8c
          have hg : us 7 = .bool true := hG.pre 7 d7
          rw [if_neg (by rw [hy]; show ¬ ((match us 7 with | .bool b => some b | _ => none) == some false) = true; rw [hg]; decide)]
          exact hK _ _ (hG.first trivial)
        · intro dn us w6 A hev hy hG hdn hdep K hK
          have d7 : dn 7 = true := allD_mem hdep (by decide)
          have hg : us 7 = .bool true := hG.pre 7 d7
          rw [if_neg (by rw [hy]; show ¬ ((match us 7 with | .bool b => some b | _ => none) == some false) = true; rw [hg]; decide)]
          exact hK _ _ (hG.first trivial)
        · intro dn us w6 A hev hy hG hdn hdep K hK
          have d7 : dn 7 = true := allD_mem hdep (by decide)
          have e0 : A.eval (.tmp 40) = .bool true := by rw [hev]; exact hG.pre 7 d7
          have e1 : A.eval (.const (.bool true)) = .bool true := by rw [hev]; rfl
          rw [if_pos (by rfl)]
          unfold Oper.wp execOp
          generalize A.eval = ev at e0 e1 ⊢
          go_simp
          exact hK _ _ (hG.first (by first | rfl | (simp; done) | (simp; omega) | (simp; assumption)))
        · intro dn us w6 A hev hy hG hdn hdep K hK
          have d12 : dn 12 = true := allD_mem hdep (by decide)
          have e0 : A.eval (.tmp 45) = .bool true := by rw [hev]; exact hG.pre 12 d12
          rw [if_pos (by rfl)]
          unfold Oper.wp execOp
          generalize A.eval = ev at e0 ⊢
          go_simp
          exact hK _ _ (hG.first (by first | rfl | (simp; done) | (simp; omega) | (simp; assumption)))
        · intro dn us w6 A hev hy hG hdn hdep K hK
          have d13 : dn 13 = true := allD_mem hdep (by decide)
          have hg : us 13 = .bool true := hG.pre 13 d13
          rw [if_neg (by rw [hy]; show ¬ ((match us 13 with | .bool b => some b | _ => none) == some false) = true; rw [hg]; decide)]
          exact hK _ _ (hG.first trivial)
        · intro dn us w6 A hev hy hG hdn hdep K hK
          have d13 : dn 13 = true := allD_mem hdep (by decide)
          have cc0 : w6.cell? ⟨wc.heap.size, 1, none⟩ = some (.int .u64 (s.call op).key) := by rw [hG.below.cell (World.block_lt_of_cell? _ _ eky)]; exact eky
          have hg : us 13 = .bool true := hG.pre 13 d13
          rw [if_neg (by rw [hy]; show ¬ ((match us 13 with | .bool b => some b | _ => none) == some false) = true; rw [hg]; decide)]
          exact hK _ _ (hG.first trivial)
        · intro dn us w6 A hev hy hG hdn hdep K hK
          have d13 : dn 13 = true := allD_mem hdep (by decide)
          have cc0 : w6.cell? ⟨w.heap.size, 0, none⟩ = some (.pointer (some ⟨k.bw, 0, none⟩)) := by rw [hG.below.cell (World.block_lt_of_cell? _ _ e2c)]; exact e2c
          have hg : us 13 = .bool true := hG.pre 13 d13
          rw [if_neg (by rw [hy]; show ¬ ((match us 13 with | .bool b => some b | _ => none) == some false) = true; rw [hg]; decide)]
          exact hK _ _ (hG.first trivial)
        · intro dn us w6 A hev hy hG hdn hdep K hK
          have d13 : dn 13 = true := allD_mem hdep (by decide)
          have hg : us 13 = .bool true := hG.pre 13 d13
          rw [if_neg (by rw [hy]; show ¬ ((match us 13 with | .bool b => some b | _ => none) == some false) = true; rw [hg]; decide)]
          exact hK _ _ (hG.first trivial)
        · intro dn us w6 A hev hy hG hdn hdep K hK
          have d13 : dn 13 = true := allD_mem hdep (by decide)
          have hg : us 13 = .bool true := hG.pre 13 d13
          rw [if_neg (by rw [hy]; show ¬ ((match us 13 with | .bool b => some b | _ => none) == some false) = true; rw [hg]; decide)]
          exact hK _ _ (hG.first trivial)
        · intro dn us w6 A hev hy hG hdn hdep K hK
          have d13 : dn 13 = true := allD_mem hdep (by decide)
          have hg : us 13 = .bool true := hG.pre 13 d13
          rw [if_neg (by rw [hy]; show ¬ ((match us 13 with | .bool b => some b | _ => none) == some false) = true; rw [hg]; decide)]
          exact hK _ _ (hG.first trivial)
        · intro dn us w6 A hev hy hG hdn hdep K hK
          have d13 : dn 13 = true := allD_mem hdep (by decide)
          have cc0 : w6.cell? ⟨k.bw, 1, none⟩ = some (.int .i64 s.c.buckets) := by rw [hG.below.cell (World.block_lt_of_cell? _ _ eb1)]; exact eb1
          have hg : us 13 = .bool true := hG.pre 13 d13
          rw [if_neg (by rw [hy]; show ¬ ((match us 13 with | .bool b => some b | _ => none) == some false) = true; rw [hg]; decide)]
          exact hK _ _ (hG.first trivial)
        · intro dn us w6 A hev hy hG hdn hdep K hK
          have d13 : dn 13 = true := allD_mem hdep (by decide)
          have ef : A.eval (.func 164) = .func (.func 164) #[] #[] := by rw [hev]; rfl
          have hg : us 13 = .bool true := hG.pre 13 d13
          rw [if_neg (by rw [hy]; show ¬ ((match us 13 with | .bool b => some b | _ => none) == some false) = true; rw [hg]; decide)]
          exact hK _ _ (hG.first trivial)
        · intro dn us w6 A hev hy hG hdn hdep K hK
          have d13 : dn 13 = true := allD_mem hdep (by decide)
          have cc0 : w6.cell? ⟨w.heap.size + 1, 0, none⟩ = some (.int .i64 bucket) := by rw [hG.below.cell (World.block_lt_of_cell? _ _ e3c)]; exact e3c
          have hg : us 13 = .bool true := hG.pre 13 d13
          rw [if_neg (by rw [hy]; show ¬ ((match us 13 with | .bool b => some b | _ => none) == some false) = true; rw [hg]; decide)]
          exact hK _ _ (hG.first trivial)
        · intro dn us w6 A hev hy hG hdn hdep K hK
          have d13 : dn 13 = true := allD_mem hdep (by decide)
          have hg : us 13 = .bool true := hG.pre 13 d13
          rw [if_neg (by rw [hy]; show ¬ ((match us 13 with | .bool b => some b | _ => none) == some false) = true; rw [hg]; decide)]
          exact hK _ _ (hG.first trivial)
        · intro dn us w6 A hev hy hG hdn hdep K hK
          have d13 : dn 13 = true := allD_mem hdep (by decide)
          have e0 : A.eval (.tmp 46) = .bool true := by rw [hev]; exact hG.pre 13 d13
          have e1 : A.eval (.const (.bool true)) = .bool true := by rw [hev]; rfl
          rw [if_pos (by rfl)]
          unfold Oper.wp execOp
          generalize A.eval = ev at e0 e1 ⊢
          go_simp
          exact hK _ _ (hG.first (by first | rfl | (simp; done) | (simp; omega) | (simp; assumption)))
        intro dn us wz hG hall
        have u24 : us 24 = .bool true := hG.pre 24 (hall 24 (by decide))
        have hbz := hG.below
        refine hK3 _ _ ?_
        simp only [fillA, fillT, Nat.reduceAdd, List.setIfInBounds_toArray, List.set_cons_zero, List.set_cons_succ, u24]
        clear hG hall u24
        have PZ := Lib.hid (HS.out.still hbz)
        clear e2c e3c e5c e6c e7c e8c eb0 eb1 eb2 eb3 eb4 eb5 eb6 ebl eky HH
        refine wpR_cond (t := true) rfl ?_
        refine wpR_seq_k fun K7 hK7 => ?_
        refine wpR_region_lit rfl ?_
        go_wp2_with (refine wpl_st rfl 4 _ _ rfl #[.bool false] rfl _ rfl (PZ.out).p4 (by kernel_rfl) rfl rfl rfl ?_; intro wy A4 O4; have TTT := True.intro)
        refine ⟨rfl, hK7 _ _ ?_⟩
        refine wpR_ret ?_
        obtain ⟨q1, q2⟩ := (PZ.out).stop (by omega) (by omega) (by omega) O4 A4
        exact ⟨{ L with state := .busy }, q1, q2, hnone⟩
      | true =>
        by_cases hse : n ∈ x.seen
        · have HSEEN := Lib.hid (decide_eq_true hse)
          clear hse hc1
          have hst : s.vw.sndStep bucket x n = none := by
            unfold Vw.sndStep
            exact if_pos HC1.out
          have hnone : s.vw.sndSt bucket ⟨[], [], [], 0⟩ (s.chain bucket) = none := by
            have h1 : s.vw.sndSt bucket ⟨[], [], [], 0⟩ ((s.chain bucket).take (j + 1)) = none := by rw [HT.out, sndSt_snoc, HX.out]; exact hst
            have h2 := sndSt_none s.vw bucket ((s.chain bucket).take (j + 1)) ((s.chain bucket).drop (j + 1)) _ h1
            rwa [List.take_append_drop] at h2
          refine wpR_seq_k fun K2 hK2 => ?_
          refine wpR_seq_k fun K3 hK3 => ?_
          refine wpR_region_J (l := [_, _, _, _, _, _, _, _, _, _, _, _, _, _, _, _, _, _, _, _, _, _, _, _, _]) (QG (fun j v => match j with | 0 => v = .bool true | 1 => v = .bool false | 2 => v = .bool false | 3 => v = .map (some (w.heap.size + 1 + 1 + 1)) | 4 => v = .int .i64 n | 5 => v = .bool true | 6 => v = .bool true | 7 => v = .bool true | 12 => v = .bool true | 13 => v = .bool true | 24 => v = .bool true | _ => True) wd) (by kernel_rfl) (by kernel_rfl) (by rfl) (fun us => QG.start us) ⟨?_, ?_, ?_, ?_, ?_, ?_, ?_, ?_, ?_, ?_, ?_, ?_, ?_, ?_, ?_, ?_, ?_, ?_, ?_, ?_, ?_, ?_, ?_, ?_, ?_, trivial⟩ ?_
          · intro dn us w6 A hev hy hG hdn hdep K hK
            have e0 : A.eval (.tmp 12) = .bool true := by rw [hev]; rfl
            rw [if_pos (by rfl)]
            unfold Oper.wp execOp
            generalize A.eval = ev at e0 ⊢
            go_simp
            exact hK _ _ (hG.first (by first | rfl | (simp; done) | (simp; omega) | (simp; assumption)))
          · intro dn us w6 A hev hy hG hdn hdep K hK
            have d0 : dn 0 = true := allD_mem hdep (by decide)
            have e0 : A.eval (.tmp 33) = .bool true := by rw [hev]; exact hG.pre 0 d0
            rw [if_pos (by rfl)]
            unfold Oper.wp execOp
            generalize A.eval = ev at e0 ⊢
            go_simp
            exact hK _ _ (hG.first (by first | rfl | (simp; done) | (simp; omega) | (simp; assumption)))
          · intro dn us w6 A hev hy hG hdn hdep K hK
            have d1 : dn 1 = true := allD_mem hdep (by decide)
            have e0 : A.eval (.tmp 34) = .bool false := by rw [hev]; exact hG.pre 1 d1
            rw [if_pos (by rfl)]
            unfold Oper.wp execOp
            generalize A.eval = ev at e0 ⊢
            go_simp
            exact hK _ _ (hG.first (by first | rfl | (simp; done) | (simp; omega) | (simp; assumption)))
          · intro dn us w6 A hev hy hG hdn hdep K hK
            have d2 : dn 2 = true := allD_mem hdep (by decide)
            have e0 : A.eval (.tmp 5) = .pointer (some ⟨w.heap.size + 1 + 1 + 1 + 1 + 1 + 1, 0, none⟩) := by rw [hev]; rfl
            have cc0 : w6.cell? ⟨w.heap.size + 1 + 1 + 1 + 1 + 1 + 1, 0, none⟩ = some (.map (some (w.heap.size + 1 + 1 + 1))) := by rw [hG.below.cell (World.block_lt_of_cell? _ _ e5c)]; exact e5c
            have hg : us 2 = .bool false := hG.pre 2 d2
            rw [if_pos (by rw [hy]; show ((match us 2 with | .bool b => some b | _ => none) == some false) = true; rw [hg]; rfl)]
            unfold Oper.wp execOp
            generalize A.eval = ev at e0 ⊢
            go_simp
            exact hK _ _ (hG.first (by first | rfl | (simp; done) | (simp; omega) | (simp; assumption)))
          · intro dn us w6 A hev hy hG hdn hdep K hK
            have d2 : dn 2 = true := allD_mem hdep (by decide)
            have e0 : A.eval (.tmp 9) = .int .i64 n := by rw [hev]; rfl
            have hg : us 2 = .bool false := hG.pre 2 d2
            rw [if_pos (by rw [hy]; show ((match us 2 with | .bool b => some b | _ => none) == some false) = true; rw [hg]; rfl)]
            unfold Oper.wp execOp
            generalize A.eval = ev at e0 ⊢
            go_simp
            exact hK _ _ (hG.first (by first | rfl | (simp; done) | (simp; omega) | (simp; assumption)))
          · intro dn us w6 A hev hy hG hdn hdep K hK
            have d2 : dn 2 = true := allD_mem hdep (by decide)
            have d3 : dn 3 = true := allD_mem hdep (by decide)
            have d4 : dn 4 = true := allD_mem hdep (by decide)
            have e0 : A.eval (.tmp 36) = .map (some (w.heap.size + 1 + 1 + 1)) := by rw [hev]; exact hG.pre 3 d3
            have e1 : A.eval (.tmp 37) = .int .i64 n := by rw [hev]; exact hG.pre 4 d4
            have hg : us 2 = .bool false := hG.pre 2 d2
            rw [if_pos (by rw [hy]; show ((match us 2 with | .bool b => some b | _ => none) == some false) = true; rw [hg]; rfl)]
            refine op_has 169 (.tmp 36) (.tmp 37) rfl Tryz.underlying169 Tryz.underlying3 zbool (w.heap.size + 1 + 1 + 1) e0 _ e1 (HS.out.s5.below hG.below) ?_
            exact hK _ _ (hG.first (by show Value.bool _ = Value.bool _; rw [HSEEN.out]))
          · intro dn us w6 A hev hy hG hdn hdep K hK
            have d2 : dn 2 = true := allD_mem hdep (by decide)
            have d5 : dn 5 = true := allD_mem hdep (by decide)
            have e0 : A.eval (.tmp 35) = .bool false := by rw [hev]; exact hG.pre 2 d2
            have e1 : A.eval (.const (.bool true)) = .bool true := by rw [hev]; rfl
            have e2 : A.eval (.tmp 38) = .bool true := by rw [hev]; exact hG.pre 5 d5
            rw [if_pos (by rfl)]
            unfold Oper.wp execOp
            generalize A.eval = ev at e0 e1 e2 ⊢
            go_simp
            exact hK _ _ (hG.first (by first | rfl | (simp; done) | (simp; omega) | (simp; assumption)))
          · intro dn us w6 A hev hy hG hdn hdep K hK
            have d6 : dn 6 = true := allD_mem hdep (by decide)
            have e0 : A.eval (.tmp 39) = .bool true := by rw [hev]; exact hG.pre 6 d6
            rw [if_pos (by rfl)]
            unfold Oper.wp execOp
            generalize A.eval = ev at e0 ⊢
            go_simp
            exact hK _ _ (hG.first (by first | rfl | (simp; done) | (simp; omega) | (simp; assumption)))
          · intro dn us w6 A hev hy hG hdn hdep K hK
            have d7 : dn 7 = true := allD_mem hdep (by decide)
            have hg : us 7 = .bool true := hG.pre 7 d7
            rw [if_neg (by rw [hy]; show ¬ ((match us 7 with | .bool b => some b | _ => none) == some false) = true; rw [hg]; decide)]
            exact hK _ _ (hG.first trivial)
          · intro dn us w6 A hev hy hG hdn hdep K hK
            have d7 : dn 7 = true := allD_mem hdep (by decide)
            have cc0 : w6.cell? ⟨wc.heap.size, 1, none⟩ = some (.int .u64 (s.call op).key) := by rw [hG.below.cell (World.block_lt_of_cell? _ _ eky)]; exact eky
            have hg : us 7 = .bool true := hG.pre 7 d7
            rw [if_neg (by rw [hy]; show ¬ ((match us 7 with | .bool b => some b | _ => none) == some false) = true; rw [hg]; decide)]
            exact hK _ _ (hG.first trivial)
          · intro dn us w6 A hev hy hG hdn hdep K hK
            have d7 : dn 7 = true := allD_mem hdep (by decide)
            have cc0 : w6.cell? ⟨w.heap.size + 1 + 1 + 1 + 1 + 1 + 1 + 1 + 1 + 1, 0, none⟩ = some (.int .u64 x.last) := by rw [hG.below.cell (World.block_lt_of_cell? _ _ e8c)]; exact e8c
            have hg : us 7 = .bool true := hG.pre 7 d7
            rw [if_neg (by rw [hy]; show ¬ ((match us 7 with | .bool b => some b | _ => none) == some false) = true; rw [hg]; decide)]
            exact hK _ _ (hG.first trivial)
          · intro dn us w6 A hev hy hG hdn hdep K hK
            have d7 : dn 7 = true := allD_mem hdep (by decide)
            have hg : us 7 = .bool true := hG.pre 7 d7
            rw [if_neg (by rw [hy]; show ¬ ((match us 7 with | .bool b => some b | _ => none) == some false) = true; rw [hg]; decide)]
            exact hK _ _ (hG.first trivial)
          · intro dn us w6 A hev hy hG hdn hdep K hK
            have d7 : dn 7 = true := allD_mem hdep (by decide)
            have e0 : A.eval (.tmp 40) = .bool true := by rw [hev]; exact hG.pre 7 d7
            have e1 : A.eval (.const (.bool true)) = .bool true := by rw [hev]; rfl
            rw [if_pos (by rfl)]
            unfold Oper.wp execOp
            generalize A.eval = ev at e0 e1 ⊢
            go_simp
            exact hK _ _ (hG.first (by first | rfl | (simp; done) | (simp; omega) | (simp; assumption)))
          · intro dn us w6 A hev hy hG hdn hdep K hK
            have d12 : dn 12 = true := allD_mem hdep (by decide)
            have e0 : A.eval (.tmp 45) = .bool true := by rw [hev]; exact hG.pre 12 d12
            rw [if_pos (by rfl)]
            unfold Oper.wp execOp
            generalize A.eval = ev at e0 ⊢
            go_simp
            exact hK _ _ (hG.first (by first | rfl | (simp; done) | (simp; omega) | (simp; assumption)))
          · intro dn us w6 A hev hy hG hdn hdep K hK
            have d13 : dn 13 = true := allD_mem hdep (by decide)
            have hg : us 13 = .bool true := hG.pre 13 d13
            rw [if_neg (by rw [hy]; show ¬ ((match us 13 with | .bool b => some b | _ => none) == some false) = true; rw [hg]; decide)]
            exact hK _ _ (hG.first trivial)
          · intro dn us w6 A hev hy hG hdn hdep K hK
            have d13 : dn 13 = true := allD_mem hdep (by decide)
            have cc0 : w6.cell? ⟨wc.heap.size, 1, none⟩ = some (.int .u64 (s.call op).key) := by rw [hG.below.cell (World.block_lt_of_cell? _ _ eky)]; exact eky
            have hg : us 13 = .bool true := hG.pre 13 d13
            rw [if_neg (by rw [hy]; show ¬ ((match us 13 with | .bool b => some b | _ => none) == some false) = true; rw [hg]; decide)]
            exact hK _ _ (hG.first trivial)
          · intro dn us w6 A hev hy hG hdn hdep K hK
            have d13 : dn 13 = true := allD_mem hdep (by decide)
            have cc0 : w6.cell? ⟨w.heap.size, 0, none⟩ = some (.pointer (some ⟨k.bw, 0, none⟩)) := by rw [hG.below.cell (World.block_lt_of_cell? _ _ e2c)]; exact e2c
            have hg : us 13 = .bool true := hG.pre 13 d13
            rw [if_neg (by rw [hy]; show ¬ ((match us 13 with | .bool b => some b | _ => none) == some false) = true; rw [hg]; decide)]
            exact hK _ _ (hG.first trivial)
          · intro dn us w6 A hev hy hG hdn hdep K hK
            have d13 : dn 13 = true := allD_mem hdep (by decide)
            have hg : us 13 = .bool true := hG.pre 13 d13
            rw [if_neg (by rw [hy]; show ¬ ((match us 13 with | .bool b => some b | _ => none) == some false) = true; rw [hg]; decide)]
            exact hK _ _ (hG.first trivial)
          · intro dn us w6 A hev hy hG hdn hdep K hK
            have d13 : dn 13 = true := allD_mem hdep (by decide)
            have hg : us 13 = .bool true := hG.pre 13 d13
            rw [if_neg (by rw [hy]; show ¬ ((match us 13 with | .bool b => some b | _ => none) == some false) = true; rw [hg]; decide)]
            exact hK _ _ (hG.first trivial)
          · intro dn us w6 A hev hy hG hdn hdep K hK
            have d13 : dn 13 = true := allD_mem hdep (by decide)
            have hg : us 13 = .bool true := hG.pre 13 d13
            rw [if_neg (by rw [hy]; show ¬ ((match us 13 with | .bool b => some b | _ => none) == some false) = true; rw [hg]; decide)]
            exact hK _ _ (hG.first trivial)
          · intro dn us w6 A hev hy hG hdn hdep K hK
            have d13 : dn 13 = true := allD_mem hdep (by decide)
            have cc0 : w6.cell? ⟨k.bw, 1, none⟩ = some (.int .i64 s.c.buckets) := by rw [hG.below.cell (World.block_lt_of_cell? _ _ eb1)]; exact eb1
            have hg : us 13 = .bool true := hG.pre 13 d13
            rw [if_neg (by rw [hy]; show ¬ ((match us 13 with | .bool b => some b | _ => none) == some false) = true; rw [hg]; decide)]
            exact hK _ _ (hG.first trivial)
          · intro dn us w6 A hev hy hG hdn hdep K hK
            have d13 : dn 13 = true := allD_mem hdep (by decide)
            have ef : A.eval (.func 164) = .func (.func 164) #[] #[] := by rw [hev]; rfl
            have hg : us 13 = .bool true := hG.pre 13 d13
            rw [if_neg (by rw [hy]; show ¬ ((match us 13 with | .bool b => some b | _ => none) == some false) = true; rw [hg]; decide)]
            exact hK _ _ (hG.first trivial)
          · intro dn us w6 A hev hy hG hdn hdep K hK
            have d13 : dn 13 = true := allD_mem hdep (by decide)
            have cc0 : w6.cell? ⟨w.heap.size + 1, 0, none⟩ = some (.int .i64 bucket) := by rw [hG.below.cell (World.block_lt_of_cell? _ _ e3c)]; exact e3c
            have hg : us 13 = .bool true := hG.pre 13 d13
            rw [if_neg (by rw [hy]; show ¬ ((match us 13 with | .bool b => some b | _ => none) == some false) = true; rw [hg]; decide)]
            exact hK _ _ (hG.first trivial)
          · intro dn us w6 A hev hy hG hdn hdep K hK
            have d13 : dn 13 = true := allD_mem hdep (by decide)
            have hg : us 13 = .bool true := hG.pre 13 d13
            rw [if_neg (by rw [hy]; show ¬ ((match us 13 with | .bool b => some b | _ => none) == some false) = true; rw [hg]; decide)]
            exact hK _ _ (hG.first trivial)
          · intro dn us w6 A hev hy hG hdn hdep K hK
            have d13 : dn 13 = true := allD_mem hdep (by decide)
            have e0 : A.eval (.tmp 46) = .bool true := by rw [hev]; exact hG.pre 13 d13
            have e1 : A.eval (.const (.bool true)) = .bool true := by rw [hev]; rfl
            rw [if_pos (by rfl)]
            unfold Oper.wp execOp
            generalize A.eval = ev at e0 e1 ⊢
            go_simp
            exact hK _ _ (hG.first (by first | rfl | (simp; done) | (simp; omega) | (simp; assumption)))
          intro dn us wz hG hall
          have u24 : us 24 = .bool true := hG.pre 24 (hall 24 (by decide))
          have hbz := hG.below
          refine hK3 _ _ ?_
          simp only [fillA, fillT, Nat.reduceAdd, List.setIfInBounds_toArray, List.set_cons_zero, List.set_cons_succ, u24]
          clear hG hall u24
          have PZ := Lib.hid (HS.out.still hbz)
          clear e2c e3c e5c e6c e7c e8c eb0 eb1 eb2 eb3 eb4 eb5 eb6 ebl eky HH
          refine wpR_cond (t := true) rfl ?_
          refine wpR_seq_k fun K7 hK7 => ?_
          refine wpR_region_lit rfl ?_
          go_wp2_with (refine wpl_st rfl 4 _ _ rfl #[.bool false] rfl _ rfl (PZ.out).p4 (by kernel_rfl) rfl rfl rfl ?_; intro wy A4 O4; have TTT := True.intro)
          refine ⟨rfl, hK7 _ _ ?_⟩
          refine wpR_ret ?_
          obtain ⟨q1, q2⟩ := (PZ.out).stop (by omega) (by omega) (by omega) O4 A4
          exact ⟨{ L with state := .busy }, q1, q2, hnone⟩
        · have HSEEN := Lib.hid (decide_eq_false hse)
          by_cases hle : (s.call op).key < x.last
          · have HLESS := Lib.hid hle
            clear hse hc1 hle
            have hst : s.vw.sndStep bucket x n = none := by
              unfold Vw.sndStep
              exact if_pos HC1.out
            have hnone : s.vw.sndSt bucket ⟨[], [], [], 0⟩ (s.chain bucket) = none := by
              have h1 : s.vw.sndSt bucket ⟨[], [], [], 0⟩ ((s.chain bucket).take (j + 1)) = none := by rw [HT.out, sndSt_snoc, HX.out]; exact hst
              have h2 := sndSt_none s.vw bucket ((s.chain bucket).take (j + 1)) ((s.chain bucket).drop (j + 1)) _ h1
              rwa [List.take_append_drop] at h2
            refine wpR_seq_k fun K2 hK2 => ?_
            refine wpR_seq_k fun K3 hK3 => ?_
            refine wpR_region_J (l := [_, _, _, _, _, _, _, _, _, _, _, _, _, _, _, _, _, _, _, _, _, _, _, _, _]) (QG (fun j v => match j with | 0 => v = .bool true | 1 => v = .bool false | 2 => v = .bool false | 3 => v = .map (some (w.heap.size + 1 + 1 + 1)) | 4 => v = .int .i64 n | 5 => v = .bool false | 6 => v = .bool false | 7 => v = .bool false | 8 => v = .pointer (some ⟨wc.heap.size, 1, none⟩) | 9 => v = .int .u64 (s.call op).key | 10 => v = .int .u64 x.last | 11 => v = .bool true | 12 => v = .bool true | 13 => v = .bool true | 24 => v = .bool true | _ => True) wd) (by kernel_rfl) (by kernel_rfl) (by rfl) (fun us => QG.start us) ⟨?_, ?_, ?_, ?_, ?_, ?_, ?_, ?_, ?_, ?_, ?_, ?_, ?_, ?_, ?_, ?_, ?_, ?_, ?_, ?_, ?_, ?_, ?_, ?_, ?_, trivial⟩ ?_
            · intro dn us w6 A hev hy hG hdn hdep K hK
              have e0 : A.eval (.tmp 12) = .bool true := by rw [hev]; rfl
              rw [if_pos (by rfl)]
              unfold Oper.wp execOp
              generalize A.eval = ev at e0 ⊢
              go_simp
              exact hK _ _ (hG.first (by first | rfl | (simp; done) | (simp; omega) | (simp; assumption)))
            · intro dn us w6 A hev hy hG hdn hdep K hK
              have d0 : dn 0 = true := allD_mem hdep (by decide)
              have e0 : A.eval (.tmp 33) = .bool true := by rw [hev]; exact hG.pre 0 d0
              rw [if_pos (by rfl)]
              unfold Oper.wp execOp
              generalize A.eval = ev at e0 ⊢
              go_simp
              exact hK _ _ (hG.first (by first | rfl | (simp; done) | (simp; omega) | (simp; assumption)))
            · intro dn us w6 A hev hy hG hdn hdep K hK
              have d1 : dn 1 = true := allD_mem hdep (by decide)
              have e0 : A.eval (.tmp 34) = .bool false := by rw [hev]; exact hG.pre 1 d1
              rw [if_pos (by rfl)]
              unfold Oper.wp execOp
              generalize A.eval = ev at e0 ⊢
              go_simp
              exact hK _ _ (hG.first (by first | rfl | (simp; done) | (simp; omega) | (simp; assumption)))
            · intro dn us w6 A hev hy hG hdn hdep K hK
              have d2 : dn 2 = true := allD_mem hdep (by decide)
              have e0 : A.eval (.tmp 5) = .pointer (some ⟨w.heap.size + 1 + 1 + 1 + 1 + 1 + 1, 0, none⟩) := by rw [hev]; rfl
              have cc0 : w6.cell? ⟨w.heap.size + 1 + 1 + 1 + 1 + 1 + 1, 0, none⟩ = some (.map (some (w.heap.size + 1 + 1 + 1))) := by rw [hG.below.cell (World.block_lt_of_cell? _ _ e5c)]; exact e5c
              have hg : us 2 = .bool false := hG.pre 2 d2
              rw [if_pos (by rw [hy]; show ((match us 2 with | .bool b => some b | _ => none) == some false) = true; rw [hg]; rfl)]
              unfold Oper.wp execOp
              generalize A.eval = ev at e0 ⊢
              go_simp
              exact hK _ _ (hG.first (by first | rfl | (simp; done) | (simp; omega) | (simp; assumption)))
            · intro dn us w6 A hev hy hG hdn hdep K hK
              have d2 : dn 2 = true := allD_mem hdep (by decide)
              have e0 : A.eval (.tmp 9) = .int .i64 n := by rw [hev]; rfl
              have hg : us 2 = .bool false := hG.pre 2 d2
              rw [if_pos (by rw [hy]; show ((match us 2 with | .bool b => some b | _ => none) == some false) = true; rw [hg]; rfl)]
              unfold Oper.wp execOp
              generalize A.eval = ev at e0 ⊢
              go_simp
              exact hK _ _ (hG.first (by first | rfl | (simp; done) | (simp; omega) | (simp; assumption)))
            · intro dn us w6 A hev hy hG hdn hdep K hK
              have d2 : dn 2 = true := allD_mem hdep (by decide)
              have d3 : dn 3 = true := allD_mem hdep (by decide)
              have d4 : dn 4 = true := allD_mem hdep (by decide)
              have e0 : A.eval (.tmp 36) = .map (some (w.heap.size + 1 + 1 + 1)) := by rw [hev]; exact hG.pre 3 d3
              have e1 : A.eval (.tmp 37) = .int .i64 n := by rw [hev]; exact hG.pre 4 d4
              have hg : us 2 = .bool false := hG.pre 2 d2
              rw [if_pos (by rw [hy]; show ((match us 2 with | .bool b => some b | _ => none) == some false) = true; rw [hg]; rfl)]
              refine op_has 169 (.tmp 36) (.tmp 37) rfl Tryz.underlying169 Tryz.underlying3 zbool (w.heap.size + 1 + 1 + 1) e0 _ e1 (HS.out.s5.below hG.below) ?_
              exact hK _ _ (hG.first (by show Value.bool _ = Value.bool _; rw [HSEEN.out]))
            · intro dn us w6 A hev hy hG hdn hdep K hK
              have d2 : dn 2 = true := allD_mem hdep (by decide)
              have d5 : dn 5 = true := allD_mem hdep (by decide)
              have e0 : A.eval (.tmp 35) = .bool false := by rw [hev]; exact hG.pre 2 d2
              have e1 : A.eval (.const (.bool true)) = .bool true := by rw [hev]; rfl
              have e2 : A.eval (.tmp 38) = .bool false := by rw [hev]; exact hG.pre 5 d5
              rw [if_pos (by rfl)]
              unfold Oper.wp execOp
              generalize A.eval = ev at e0 e1 e2 ⊢
              go_simp
              exact hK _ _ (hG.first (by first | rfl | (simp; done) | (simp; omega) | (simp; assumption)))
            · intro dn us w6 A hev hy hG hdn hdep K hK
              have d6 : dn 6 = true := allD_mem hdep (by decide)
              have e0 : A.eval (.tmp 39) = .bool false := by rw [hev]; exact hG.pre 6 d6
              rw [if_pos (by rfl)]
              unfold Oper.wp execOp
              generalize A.eval = ev at e0 ⊢
              go_simp
              exact hK _ _ (hG.first (by first | rfl | (simp; done) | (simp; omega) | (simp; assumption)))
            · intro dn us w6 A hev hy hG hdn hdep K hK
              have d7 : dn 7 = true := allD_mem hdep (by decide)
              have e0 : A.eval (.tmp 11) = .pointer (some ⟨wc.heap.size, 0, none⟩) := by rw [hev]; rfl
              have hg : us 7 = .bool false := hG.pre 7 d7
              rw [if_pos (by rw [hy]; show ((match us 7 with | .bool b => some b | _ => none) == some false) = true; rw [hg]; rfl)]
              unfold Oper.wp execOp
              generalize A.eval = ev at e0 ⊢
              go_simp
              exact hK _ _ (hG.first (by first | rfl | (simp; done) | (simp; omega) | (simp; assumption)))
            · intro dn us w6 A hev hy hG hdn hdep K hK
              have d7 : dn 7 = true := allD_mem hdep (by decide)
              have d8 : dn 8 = true := allD_mem hdep (by decide)
              have e0 : A.eval (.tmp 41) = .pointer (some ⟨wc.heap.size, 1, none⟩) := by rw [hev]; exact hG.pre 8 d8
              have cc0 : w6.cell? ⟨wc.heap.size, 1, none⟩ = some (.int .u64 (s.call op).key) := by rw [hG.below.cell (World.block_lt_of_cell? _ _ eky)]; exact eky
              have hg : us 7 = .bool false := hG.pre 7 d7
              rw [if_pos (by rw [hy]; show ((match us 7 with | .bool b => some b | _ => none) == some false) = true; rw [hg]; rfl)]
              unfold Oper.wp execOp
              generalize A.eval = ev at e0 ⊢
              go_simp
              exact hK _ _ (hG.first (by first | rfl | (simp; done) | (simp; omega) | (simp; assumption)))
            · intro dn us w6 A hev hy hG hdn hdep K hK
              have d7 : dn 7 = true := allD_mem hdep (by decide)
              have e0 : A.eval (.tmp 8) = .pointer (some ⟨w.heap.size + 1 + 1 + 1 + 1 + 1 + 1 + 1 + 1 + 1, 0, none⟩) := by rw [hev]; rfl
              have cc0 : w6.cell? ⟨w.heap.size + 1 + 1 + 1 + 1 + 1 + 1 + 1 + 1 + 1, 0, none⟩ = some (.int .u64 x.last) := by rw [hG.below.cell (World.block_lt_of_cell? _ _ e8c)]; exact e8c
              have hg : us 7 = .bool false := hG.pre 7 d7
              rw [if_pos (by rw [hy]; show ((match us 7 with | .bool b => some b | _ => none) == some false) = true; rw [hg]; rfl)]
              unfold Oper.wp execOp
              generalize A.eval = ev at e0 ⊢
              go_simp
              exact hK _ _ (hG.first (by first | rfl | (simp; done) | (simp; omega) | (simp; assumption)))
            · intro dn us w6 A hev hy hG hdn hdep K hK
              have d7 : dn 7 = true := allD_mem hdep (by decide)
              have d9 : dn 9 = true := allD_mem hdep (by decide)
              have d10 : dn 10 = true := allD_mem hdep (by decide)
              have e0 : A.eval (.tmp 42) = .int .u64 (s.call op).key := by rw [hev]; exact hG.pre 9 d9
              have e1 : A.eval (.tmp 43) = .int .u64 x.last := by rw [hev]; exact hG.pre 10 d10
              have hle := HLESS.out
              have hg : us 7 = .bool false := hG.pre 7 d7
              rw [if_pos (by rw [hy]; show ((match us 7 with | .bool b => some b | _ => none) == some false) = true; rw [hg]; rfl)]
              unfold Oper.wp execOp
              generalize A.eval = ev at e0 e1 ⊢
              go_simp
              exact hK _ _ (hG.first (by first | rfl | (simp; done) | (simp; omega) | (simp; assumption)))
            · intro dn us w6 A hev hy hG hdn hdep K hK
              have d7 : dn 7 = true := allD_mem hdep (by decide)
              have d11 : dn 11 = true := allD_mem hdep (by decide)
              have e0 : A.eval (.tmp 40) = .bool false := by rw [hev]; exact hG.pre 7 d7
              have e1 : A.eval (.const (.bool true)) = .bool true := by rw [hev]; rfl
              have e2 : A.eval (.tmp 44) = .bool true := by rw [hev]; exact hG.pre 11 d11
              rw [if_pos (by rfl)]
              unfold Oper.wp execOp
              generalize A.eval = ev at e0 e1 e2 ⊢
              go_simp
              exact hK _ _ (hG.first (by first | rfl | (simp; done) | (simp; omega) | (simp; assumption)))
            · intro dn us w6 A hev hy hG hdn hdep K hK
              have d12 : dn 12 = true := allD_mem hdep (by decide)
              have e0 : A.eval (.tmp 45) = .bool true := by rw [hev]; exact hG.pre 12 d12
              rw [if_pos (by rfl)]
              unfold Oper.wp execOp
              generalize A.eval = ev at e0 ⊢
              go_simp
              exact hK _ _ (hG.first (by first | rfl | (simp; done) | (simp; omega) | (simp; assumption)))
            · intro dn us w6 A hev hy hG hdn hdep K hK
              have d13 : dn 13 = true := allD_mem hdep (by decide)
              have hg : us 13 = .bool true := hG.pre 13 d13
              rw [if_neg (by rw [hy]; show ¬ ((match us 13 with | .bool b => some b | _ => none) == some false) = true; rw [hg]; decide)]
              exact hK _ _ (hG.first trivial)
            · intro dn us w6 A hev hy hG hdn hdep K hK
              have d13 : dn 13 = true := allD_mem hdep (by decide)
              have cc0 : w6.cell? ⟨wc.heap.size, 1, none⟩ = some (.int .u64 (s.call op).key) := by rw [hG.below.cell (World.block_lt_of_cell? _ _ eky)]; exact eky
              have hg : us 13 = .bool true := hG.pre 13 d13
              rw [if_neg (by rw [hy]; show ¬ ((match us 13 with | .bool b => some b | _ => none) == some false) = true; rw [hg]; decide)]
              exact hK _ _ (hG.first trivial)
            · intro dn us w6 A hev hy hG hdn hdep K hK
              have d13 : dn 13 = true := allD_mem hdep (by decide)
              have cc0 : w6.cell? ⟨w.heap.size, 0, none⟩ = some (.pointer (some ⟨k.bw, 0, none⟩)) := by rw [hG.below.cell (World.block_lt_of_cell? _ _ e2c)]; exact e2c
              have hg : us 13 = .bool true := hG.pre 13 d13
              rw [if_neg (by rw [hy]; show ¬ ((match us 13 with | .bool b => some b | _ => none) == some false) = true; rw [hg]; decide)]
              exact hK _ _ (hG.first trivial)
            · intro dn us w6 A hev hy hG hdn hdep K hK
              have d13 : dn 13 = true := allD_mem hdep (by decide)
              have hg : us 13 = .bool true := hG.pre 13 d13
              rw [if_neg (by rw [hy]; show ¬ ((match us 13 with | .bool b => some b | _ => none) == some false) = true; rw [hg]; decide)]
              exact hK _ _ (hG.first trivial)
            · intro dn us w6 A hev hy hG hdn hdep K hK
              have d13 : dn 13 = true := allD_mem hdep (by decide)
              have hg : us 13 = .bool true := hG.pre 13 d13
              rw [if_neg (by rw [hy]; show ¬ ((match us 13 with | .bool b => some b | _ => none) == some false) = true; rw [hg]; decide)]
              exact hK _ _ (hG.first trivial)
            · intro dn us w6 A hev hy hG hdn hdep K hK
              have d13 : dn 13 = true := allD_mem hdep (by decide)
              have hg : us 13 = .bool true := hG.pre 13 d13
              rw [if_neg (by rw [hy]; show ¬ ((match us 13 with | .bool b => some b | _ => none) == some false) = true; rw [hg]; decide)]
              exact hK _ _ (hG.first trivial)
            · intro dn us w6 A hev hy hG hdn hdep K hK
              have d13 : dn 13 = true := allD_mem hdep (by decide)
              have cc0 : w6.cell? ⟨k.bw, 1, none⟩ = some (.int .i64 s.c.buckets) := by rw [hG.below.cell (World.block_lt_of_cell? _ _ eb1)]; exact eb1
              have hg : us 13 = .bool true := hG.pre 13 d13
              rw [if_neg (by rw [hy]; show ¬ ((match us 13 with | .bool b => some b | _ => none) == some false) = true; rw [hg]; decide)]
              exact hK _ _ (hG.first trivial)
            · intro dn us w6 A hev hy hG hdn hdep K hK
              have d13 : dn 13 = true := allD_mem hdep (by decide)
              have ef : A.eval (.func 164) = .func (.func 164) #[] #[] := by rw [hev]; rfl
              have hg : us 13 = .bool true := hG.pre 13 d13
              rw [if_neg (by rw [hy]; show ¬ ((match us 13 with | .bool b => some b | _ => none) == some false) = true; rw [hg]; decide)]
              exact hK _ _ (hG.first trivial)
            · intro dn us w6 A hev hy hG hdn hdep K hK
              have d13 : dn 13 = true := allD_mem hdep (by decide)
              have cc0 : w6.cell? ⟨w.heap.size + 1, 0, none⟩ = some (.int .i64 bucket) := by rw [hG.below.cell (World.block_lt_of_cell? _ _ e3c)]; exact e3c
              have hg : us 13 = .bool true := hG.pre 13 d13
              rw [if_neg (by rw [hy]; show ¬ ((match us 13 with | .bool b => some b | _ => none) == some false) = true; rw [hg]; decide)]
              exact hK _ _ (hG.first trivial)
            · intro dn us w6 A hev hy hG hdn hdep K hK
              have d13 : dn 13 = true := allD_mem hdep (by decide)
              have hg : us 13 = .bool true := hG.pre 13 d13
              rw [if_neg (by rw [hy]; show ¬ ((match us 13 with | .bool b => some b | _ => none) == some false) = true; rw [hg]; decide)]
              exact hK _ _ (hG.first trivial)
            · intro dn us w6 A hev hy hG hdn hdep K hK
              have d13 : dn 13 = true := allD_mem hdep (by decide)
              have e0 : A.eval (.tmp 46) = .bool true := by rw [hev]; exact hG.pre 13 d13
              have e1 : A.eval (.const (.bool true)) = .bool true := by rw [hev]; rfl
              rw [if_pos (by rfl)]
              unfold Oper.wp execOp
              generalize A.eval = ev at e0 e1 ⊢
              go_simp
              exact hK _ _ (hG.first (by first | rfl | (simp; done) | (simp; omega) | (simp; assumption)))
            intro dn us wz hG hall
            have u24 : us 24 = .bool true := hG.pre 24 (hall 24 (by decide))
            have hbz := hG.below
            refine hK3 _ _ ?_
            simp only [fillA, fillT, Nat.reduceAdd, List.setIfInBounds_toArray, List.set_cons_zero, List.set_cons_succ, u24]
            clear hG hall u24
            have PZ := Lib.hid (HS.out.still hbz)
            clear e2c e3c e5c e6c e7c e8c eb0 eb1 eb2 eb3 eb4 eb5 eb6 ebl eky HH
            refine wpR_cond (t := true) rfl ?_
            refine wpR_seq_k fun K7 hK7 => ?_
            refine wpR_region_lit rfl ?_
            go_wp2_with (refine wpl_st rfl 4 _ _ rfl #[.bool false] rfl _ rfl (PZ.out).p4 (by kernel_rfl) rfl rfl rfl ?_; intro wy A4 O4; have TTT := True.intro)
            refine ⟨rfl, hK7 _ _ ?_⟩
            refine wpR_ret ?_
            obtain ⟨q1, q2⟩ := (PZ.out).stop (by omega) (by omega) (by omega) O4 A4
            exact ⟨{ L with state := .busy }, q1, q2, hnone⟩
          · have HLESS := Lib.hid hle
            have HOTH := Lib.hid (show ¬ bucketOf (s.call op).key s.c.buckets = bucket by
              rcases hc1 with q | q | q | q
              · exact (q (by rw [HOPV.out]; exact HINS.out.1 hio)).elim
              · exact (hse q).elim
              · exact (hle (by rw [← HKEY.out]; exact q)).elim
              · intro e; exact q (by show bucketOf (s.vw.key n) s.c.buckets = bucket; rw [HKEY.out]; exact e))
            clear hse hc1 hle
            have hst : s.vw.sndStep bucket x n = none := by
              unfold Vw.sndStep
              exact if_pos HC1.out
            have hnone : s.vw.sndSt bucket ⟨[], [], [], 0⟩ (s.chain bucket) = none := by
              have h1 : s.vw.sndSt bucket ⟨[], [], [], 0⟩ ((s.chain bucket).take (j + 1)) = none := by rw [HT.out, sndSt_snoc, HX.out]; exact hst
              have h2 := sndSt_none s.vw bucket ((s.chain bucket).take (j + 1)) ((s.chain bucket).drop (j + 1)) _ h1
              rwa [List.take_append_drop] at h2
            refine wpR_seq_k fun K2 hK2 => ?_
            refine wpR_seq_k fun K3 hK3 => ?_
            refine wpR_region_J (l := [_, _, _, _, _, _, _, _, _, _, _, _, _, _, _, _, _, _, _, _, _, _, _, _, _]) (QG (fun j v => match j with | 0 => v = .bool true | 1 => v = .bool false | 2 => v = .bool false | 3 => v = .map (some (w.heap.size + 1 + 1 + 1)) | 4 => v = .int .i64 n | 5 => v = .bool false | 6 => v = .bool false | 7 => v = .bool false | 8 => v = .pointer (some ⟨wc.heap.size, 1, none⟩) | 9 => v = .int .u64 (s.call op).key | 10 => v = .int .u64 x.last | 11 => v = .bool false | 12 => v = .bool false | 13 => v = .bool false | 14 => v = .pointer (some ⟨wc.heap.size, 1, none⟩) | 15 => v = .int .u64 (s.call op).key | 16 => v = .pointer (some ⟨k.bw, 0, none⟩) | 17 => v = .pointer (some ⟨k.bw, 0, none⟩) | 18 => v = .pointer (some ⟨k.bw, 0, none⟩) | 19 => v = .pointer (some ⟨k.bw, 1, none⟩) | 20 => v = .int .i64 s.c.buckets | 21 => v = .int .i64 (bucketOf (s.call op).key s.c.buckets) | 22 => v = .int .i64 bucket | 23 => v = .bool true | 24 => v = .bool true | _ => True) wd) (by kernel_rfl) (by kernel_rfl) (by rfl) (fun us => QG.start us) ⟨?_, ?_, ?_, ?_, ?_, ?_, ?_, ?_, ?_, ?_, ?_, ?_, ?_, ?_, ?_, ?_, ?_, ?_, ?_, ?_, ?_, ?_, ?_, ?_, ?_, trivial⟩ ?_
            · intro dn us w6 A hev hy hG hdn hdep K hK
              have e0 : A.eval (.tmp 12) = .bool true := by rw [hev]; rfl
              rw [if_pos (by rfl)]
              unfold Oper.wp execOp
              generalize A.eval = ev at e0 ⊢
              go_simp
              exact hK _ _ (hG.first (by first | rfl | (simp; done) | (simp; omega) | (simp; assumption)))
            · intro dn us w6 A hev hy hG hdn hdep K hK
              have d0 : dn 0 = true := allD_mem hdep (by decide)
              have e0 : A.eval (.tmp 33) = .bool true := by rw [hev]; exact hG.pre 0 d0
              rw [if_pos (by rfl)]
              unfold Oper.wp execOp
              generalize A.eval = ev at e0 ⊢
              go_simp
              exact hK _ _ (hG.first (by first | rfl | (simp; done) | (simp; omega) | (simp; assumption)))
            · intro dn us w6 A hev hy hG hdn hdep K hK
              have d1 : dn 1 = true := allD_mem hdep (by decide)
              have e0 : A.eval (.tmp 34) = .bool false := by rw [hev]; exact hG.pre 1 d1
              rw [if_pos (by rfl)]
              unfold Oper.wp execOp
              generalize A.eval = ev at e0 ⊢
              go_simp
              exact hK _ _ (hG.first (by first | rfl | (simp; done) | (simp; omega) | (simp; assumption)))
            · intro dn us w6 A hev hy hG hdn hdep K hK
              have d2 : dn 2 = true := allD_mem hdep (by decide)
              have e0 : A.eval (.tmp 5) = .pointer (some ⟨w.heap.size + 1 + 1 + 1 + 1 + 1 + 1, 0, none⟩) := by rw [hev]; rfl
              have cc0 : w6.cell? ⟨w.heap.size + 1 + 1 + 1 + 1 + 1 + 1, 0, none⟩ = some (.map (some (w.heap.size + 1 + 1 + 1))) := by rw [hG.below.cell (World.block_lt_of_cell? _ _ e5c)]; exact e5c
              have hg : us 2 = .bool false := hG.pre 2 d2
              rw [if_pos (by rw [hy]; show ((match us 2 with | .bool b => some b | _ => none) == some false) = true; rw [hg]; rfl)]
              unfold Oper.wp execOp
              generalize A.eval = ev at e0 ⊢
              go_simp
              exact hK _ _ (hG.first (by first | rfl | (simp; done) | (simp; omega) | (simp; assumption)))
            · intro dn us w6 A hev hy hG hdn hdep K hK
              have d2 : dn 2 = true := allD_mem hdep (by decide)
              have e0 : A.eval (.tmp 9) = .int .i64 n := by rw [hev]; rfl
              have hg : us 2 = .bool false := hG.pre 2 d2
              rw [if_pos (by rw [hy]; show ((match us 2 with | .bool b => some b | _ => none) == some false) = true; rw [hg]; rfl)]
              unfold Oper.wp execOp
              generalize A.eval = ev at e0 ⊢
              go_simp
              exact hK _ _ (hG.first (by first | rfl | (simp; done) | (simp; omega) | (simp; assumption)))
            · intro dn us w6 A hev hy hG hdn hdep K hK
              have d2 : dn 2 = true := allD_mem hdep (by decide)
              have d3 : dn 3 = true := allD_mem hdep (by decide)
              have d4 : dn 4 = true := allD_mem hdep (by decide)
              have e0 : A.eval (.tmp 36) = .map (some (w.heap.size + 1 + 1 + 1)) := by rw [hev]; exact hG.pre 3 d3
              have e1 : A.eval (.tmp 37) = .int .i64 n := by rw [hev]; exact hG.pre 4 d4
              have hg : us 2 = .bool false := hG.pre 2 d2
              rw [if_pos (by rw [hy]; show ((match us 2 with | .bool b => some b | _ => none) == some false) = true; rw [hg]; rfl)]
              refine op_has 169 (.tmp 36) (.tmp 37) rfl Tryz.underlying169 Tryz.underlying3 zbool (w.heap.size + 1 + 1 + 1) e0 _ e1 (HS.out.s5.below hG.below) ?_
              exact hK _ _ (hG.first (by show Value.bool _ = Value.bool _; rw [HSEEN.out]))
            · intro dn us w6 A hev hy hG hdn hdep K hK
              have d2 : dn 2 = true := allD_mem hdep (by decide)
              have d5 : dn 5 = true := allD_mem hdep (by decide)
              have e0 : A.eval (.tmp 35) = .bool false := by rw [hev]; exact hG.pre 2 d2
              have e1 : A.eval (.const (.bool true)) = .bool true := by rw [hev]; rfl
              have e2 : A.eval (.tmp 38) = .bool false := by rw [hev]; exact hG.pre 5 d5
              rw [if_pos (by rfl)]
              unfold Oper.wp execOp
              generalize A.eval = ev at e0 e1 e2 ⊢
              go_simp
              exact hK _ _ (hG.first (by first | rfl | (simp; done) | (simp; omega) | (simp; assumption)))
            · intro dn us w6 A hev hy hG hdn hdep K hK
              have d6 : dn 6 = true := allD_mem hdep (by decide)
              have e0 : A.eval (.tmp 39) = .bool false := by rw [hev]; exact hG.pre 6 d6
              rw [if_pos (by rfl)]
              unfold Oper.wp execOp
              generalize A.eval = ev at e0 ⊢
              go_simp
              exact hK _ _ (hG.first (by first | rfl | (simp; done) | (simp; omega) | (simp; assumption)))
            · intro dn us w6 A hev hy hG hdn hdep K hK
              have d7 : dn 7 = true := allD_mem hdep (by decide)
              have e0 : A.eval (.tmp 11) = .pointer (some ⟨wc.heap.size, 0, none⟩) := by rw [hev]; rfl
              have hg : us 7 = .bool false := hG.pre 7 d7
              rw [if_pos (by rw [hy]; show ((match us 7 with | .bool b => some b | _ => none) == some false) = true; rw [hg]; rfl)]
              unfold Oper.wp execOp
              generalize A.eval = ev at e0 ⊢
              go_simp
              exact hK _ _ (hG.first (by first | rfl | (simp; done) | (simp; omega) | (simp; assumption)))
            · intro dn us w6 A hev hy hG hdn hdep K hK
              have d7 : dn 7 = true := allD_mem hdep (by decide)
              have d8 : dn 8 = true := allD_mem hdep (by decide)
              have e0 : A.eval (.tmp 41) = .pointer (some ⟨wc.heap.size, 1, none⟩) := by rw [hev]; exact hG.pre 8 d8
              have cc0 : w6.cell? ⟨wc.heap.size, 1, none⟩ = some (.int .u64 (s.call op).key) := by rw [hG.below.cell (World.block_lt_of_cell? _ _ eky)]; exact eky
              have hg : us 7 = .bool false := hG.pre 7 d7
              rw [if_pos (by rw [hy]; show ((match us 7 with | .bool b => some b | _ => none) == some false) = true; rw [hg]; rfl)]
              unfold Oper.wp execOp
              generalize A.eval = ev at e0 ⊢
              go_simp
              exact hK _ _ (hG.first (by first | rfl | (simp; done) | (simp; omega) | (simp; assumption)))
            · intro dn us w6 A hev hy hG hdn hdep K hK
              have d7 : dn 7 = true := allD_mem hdep (by decide)
              have e0 : A.eval (.tmp 8) = .pointer (some ⟨w.heap.size + 1 + 1 + 1 + 1 + 1 + 1 + 1 + 1 + 1, 0, none⟩) := by rw [hev]; rfl
              have cc0 : w6.cell? ⟨w.heap.size + 1 + 1 + 1 + 1 + 1 + 1 + 1 + 1 + 1, 0, none⟩ = some (.int .u64 x.last) := by rw [hG.below.cell (World.block_lt_of_cell? _ _ e8c)]; exact e8c
              have hg : us 7 = .bool false := hG.pre 7 d7
              rw [if_pos (by rw [hy]; show ((match us 7 with | .bool b => some b | _ => none) == some false) = true; rw [hg]; rfl)]
              unfold Oper.wp execOp
              generalize A.eval = ev at e0 ⊢
              go_simp
              exact hK _ _ (hG.first (by first | rfl | (simp; done) | (simp; omega) | (simp; assumption)))
            · intro dn us w6 A hev hy hG hdn hdep K hK
              have d7 : dn 7 = true := allD_mem hdep (by decide)
              have d9 : dn 9 = true := allD_mem hdep (by decide)
              have d10 : dn 10 = true := allD_mem hdep (by decide)
              have e0 : A.eval (.tmp 42) = .int .u64 (s.call op).key := by rw [hev]; exact hG.pre 9 d9
              have e1 : A.eval (.tmp 43) = .int .u64 x.last := by rw [hev]; exact hG.pre 10 d10
              have hle := HLESS.out
              have hg : us 7 = .bool false := hG.pre 7 d7
              rw [if_pos (by rw [hy]; show ((match us 7 with | .bool b => some b | _ => none) == some false) = true; rw [hg]; rfl)]
              unfold Oper.wp execOp
              generalize A.eval = ev at e0 e1 ⊢
              go_simp
              exact hK _ _ (hG.first (by first | rfl | (simp; done) | (simp; omega) | (simp; assumption)))
            · intro dn us w6 A hev hy hG hdn hdep K hK
              have d7 : dn 7 = true := allD_mem hdep (by decide)
              have d11 : dn 11 = true := allD_mem hdep (by decide)
              have e0 : A.eval (.tmp 40) = .bool false := by rw [hev]; exact hG.pre 7 d7
              have e1 : A.eval (.const (.bool true)) = .bool true := by rw [hev]; rfl
              have e2 : A.eval (.tmp 44) = .bool false := by rw [hev]; exact hG.pre 11 d11
              rw [if_pos (by rfl)]
              unfold Oper.wp execOp
              generalize A.eval = ev at e0 e1 e2 ⊢
              go_simp
              exact hK _ _ (hG.first (by first | rfl | (simp; done) | (simp; omega) | (simp; assumption)))
            · intro dn us w6 A hev hy hG hdn hdep K hK
              have d12 : dn 12 = true := allD_mem hdep (by decide)
              have e0 : A.eval (.tmp 45) = .bool false := by rw [hev]; exact hG.pre 12 d12
              rw [if_pos (by rfl)]
              unfold Oper.wp execOp
              generalize A.eval = ev at e0 ⊢
              go_simp
              exact hK _ _ (hG.first (by first | rfl | (simp; done) | (simp; omega) | (simp; assumption)))
            · intro dn us w6 A hev hy hG hdn hdep K hK
              have d13 : dn 13 = true := allD_mem hdep (by decide)
              have e0 : A.eval (.tmp 11) = .pointer (some ⟨wc.heap.size, 0, none⟩) := by rw [hev]; rfl
              have hg : us 13 = .bool false := hG.pre 13 d13
              rw [if_pos (by rw [hy]; show ((match us 13 with | .bool b => some b | _ => none) == some false) = true; rw [hg]; rfl)]
              unfold Oper.wp execOp
              generalize A.eval = ev at e0 ⊢
              go_simp
              exact hK _ _ (hG.first (by first | rfl | (simp; done) | (simp; omega) | (simp; assumption)))
            · intro dn us w6 A hev hy hG hdn hdep K hK
              have d13 : dn 13 = true := allD_mem hdep (by decide)
              have d14 : dn 14 = true := allD_mem hdep (by decide)
              have e0 : A.eval (.tmp 47) = .pointer (some ⟨wc.heap.size, 1, none⟩) := by rw [hev]; exact hG.pre 14 d14
              have cc0 : w6.cell? ⟨wc.heap.size, 1, none⟩ = some (.int .u64 (s.call op).key) := by rw [hG.below.cell (World.block_lt_of_cell? _ _ eky)]; exact eky
              have hg : us 13 = .bool false := hG.pre 13 d13
              rw [if_pos (by rw [hy]; show ((match us 13 with | .bool b => some b | _ => none) == some false) = true; rw [hg]; rfl)]
              unfold Oper.wp execOp
              generalize A.eval = ev at e0 ⊢
              go_simp
              exact hK _ _ (hG.first (by first | rfl | (simp; done) | (simp; omega) | (simp; assumption)))
            · intro dn us w6 A hev hy hG hdn hdep K hK
              have d13 : dn 13 = true := allD_mem hdep (by decide)
              have e0 : A.eval (.tmp 2) = .pointer (some ⟨w.heap.size, 0, none⟩) := by rw [hev]; rfl
              have cc0 : w6.cell? ⟨w.heap.size, 0, none⟩ = some (.pointer (some ⟨k.bw, 0, none⟩)) := by rw [hG.below.cell (World.block_lt_of_cell? _ _ e2c)]; exact e2c
              have hg : us 13 = .bool false := hG.pre 13 d13
              rw [if_pos (by rw [hy]; show ((match us 13 with | .bool b => some b | _ => none) == some false) = true; rw [hg]; rfl)]
              unfold Oper.wp execOp
              generalize A.eval = ev at e0 ⊢
              go_simp
              exact hK _ _ (hG.first (by first | rfl | (simp; done) | (simp; omega) | (simp; assumption)))
            · intro dn us w6 A hev hy hG hdn hdep K hK
              have d13 : dn 13 = true := allD_mem hdep (by decide)
              have d16 : dn 16 = true := allD_mem hdep (by decide)
              have e0 : A.eval (.tmp 49) = .pointer (some ⟨k.bw, 0, none⟩) := by rw [hev]; exact hG.pre 16 d16
              have hg : us 13 = .bool false := hG.pre 13 d13
              rw [if_pos (by rw [hy]; show ((match us 13 with | .bool b => some b | _ => none) == some false) = true; rw [hg]; rfl)]
              unfold Oper.wp execOp
              generalize A.eval = ev at e0 ⊢
              go_simp
              exact hK _ _ (hG.first (by first | rfl | (simp; done) | (simp; omega) | (simp; assumption)))
            · intro dn us w6 A hev hy hG hdn hdep K hK
              have d13 : dn 13 = true := allD_mem hdep (by decide)
              have d17 : dn 17 = true := allD_mem hdep (by decide)
              have e0 : A.eval (.tmp 50) = .pointer (some ⟨k.bw, 0, none⟩) := by rw [hev]; exact hG.pre 17 d17
              have hg : us 13 = .bool false := hG.pre 13 d13
              rw [if_pos (by rw [hy]; show ((match us 13 with | .bool b => some b | _ => none) == some false) = true; rw [hg]; rfl)]
              unfold Oper.wp execOp
              generalize A.eval = ev at e0 ⊢
              go_simp
              exact hK _ _ (hG.first (by first | rfl | (simp; done) | (simp; omega) | (simp; assumption)))
            · intro dn us w6 A hev hy hG hdn hdep K hK
              have d13 : dn 13 = true := allD_mem hdep (by decide)
              have d18 : dn 18 = true := allD_mem hdep (by decide)
              have e0 : A.eval (.tmp 51) = .pointer (some ⟨k.bw, 0, none⟩) := by rw [hev]; exact hG.pre 18 d18
              have hg : us 13 = .bool false := hG.pre 13 d13
              rw [if_pos (by rw [hy]; show ((match us 13 with | .bool b => some b | _ => none) == some false) = true; rw [hg]; rfl)]
              unfold Oper.wp execOp
              generalize A.eval = ev at e0 ⊢
              go_simp
              exact hK _ _ (hG.first (by first | rfl | (simp; done) | (simp; omega) | (simp; assumption)))
            · intro dn us w6 A hev hy hG hdn hdep K hK
              have d13 : dn 13 = true := allD_mem hdep (by decide)
              have d19 : dn 19 = true := allD_mem hdep (by decide)
              have e0 : A.eval (.tmp 52) = .pointer (some ⟨k.bw, 1, none⟩) := by rw [hev]; exact hG.pre 19 d19
              have cc0 : w6.cell? ⟨k.bw, 1, none⟩ = some (.int .i64 s.c.buckets) := by rw [hG.below.cell (World.block_lt_of_cell? _ _ eb1)]; exact eb1
              have hg : us 13 = .bool false := hG.pre 13 d13
              rw [if_pos (by rw [hy]; show ((match us 13 with | .bool b => some b | _ => none) == some false) = true; rw [hg]; rfl)]
              unfold Oper.wp execOp
              generalize A.eval = ev at e0 ⊢
              go_simp
              exact hK _ _ (hG.first (by first | rfl | (simp; done) | (simp; omega) | (simp; assumption)))
            · intro dn us w6 A hev hy hG hdn hdep K hK
              have d13 : dn 13 = true := allD_mem hdep (by decide)
              have d15 : dn 15 = true := allD_mem hdep (by decide)
              have d20 : dn 20 = true := allD_mem hdep (by decide)
              have e0 : A.eval (.tmp 48) = .int .u64 (s.call op).key := by rw [hev]; exact hG.pre 15 d15
              have e1 : A.eval (.tmp 53) = .int .i64 s.c.buckets := by rw [hev]; exact hG.pre 20 d20
              have ef : A.eval (.func 164) = .func (.func 164) #[] #[] := by rw [hev]; rfl
              have hg : us 13 = .bool false := hG.pre 13 d13
              rw [if_pos (by rw [hy]; show ((match us 13 with | .bool b => some b | _ => none) == some false) = true; rw [hg]; rfl)]
              unfold Oper.wp execOp
              generalize A.eval = ev at e0 e1 ef ⊢
              go_simp
              refine (bucket_any (s.call op).key s.c.buckets _).mono ?_
              rintro e wq ⟨rfl, hb⟩
              exact hK _ _ (hG.called rfl hb)
            · intro dn us w6 A hev hy hG hdn hdep K hK
              have d13 : dn 13 = true := allD_mem hdep (by decide)
              have e0 : A.eval (.tmp 3) = .pointer (some ⟨w.heap.size + 1, 0, none⟩) := by rw [hev]; rfl
              have cc0 : w6.cell? ⟨w.heap.size + 1, 0, none⟩ = some (.int .i64 bucket) := by rw [hG.below.cell (World.block_lt_of_cell? _ _ e3c)]; exact e3c
              have hg : us 13 = .bool false := hG.pre 13 d13
              rw [if_pos (by rw [hy]; show ((match us 13 with | .bool b => some b | _ => none) == some false) = true; rw [hg]; rfl)]
              unfold Oper.wp execOp
              generalize A.eval = ev at e0 ⊢
              go_simp
              exact hK _ _ (hG.first (by first | rfl | (simp; done) | (simp; omega) | (simp; assumption)))
            · intro dn us w6 A hev hy hG hdn hdep K hK
              have d13 : dn 13 = true := allD_mem hdep (by decide)
              have d21 : dn 21 = true := allD_mem hdep (by decide)
              have d22 : dn 22 = true := allD_mem hdep (by decide)
              have e0 : A.eval (.tmp 54) = .int .i64 (bucketOf (s.call op).key s.c.buckets) := by rw [hev]; exact hG.pre 21 d21
              have e1 : A.eval (.tmp 55) = .int .i64 bucket := by rw [hev]; exact hG.pre 22 d22
              have hle := HOTH.out
              have hg : us 13 = .bool false := hG.pre 13 d13
              rw [if_pos (by rw [hy]; show ((match us 13 with | .bool b => some b | _ => none) == some false) = true; rw [hg]; rfl)]
              unfold Oper.wp execOp
              generalize A.eval = ev at e0 e1 ⊢
              go_simp
              exact hK _ _ (hG.first (by first | rfl | (simp; done) | (simp; omega) | (simp; assumption)))
            · intro dn us w6 A hev hy hG hdn hdep K hK
              have d13 : dn 13 = true := allD_mem hdep (by decide)
              have d23 : dn 23 = true := allD_mem hdep (by decide)
              have e0 : A.eval (.tmp 46) = .bool false := by rw [hev]; exact hG.pre 13 d13
              have e1 : A.eval (.const (.bool true)) = .bool true := by rw [hev]; rfl
              have e2 : A.eval (.tmp 56) = .bool true := by rw [hev]; exact hG.pre 23 d23
              rw [if_pos (by rfl)]
              unfold Oper.wp execOp
              generalize A.eval = ev at e0 e1 e2 ⊢
              go_simp
              exact hK _ _ (hG.first (by first | rfl | (simp; done) | (simp; omega) | (simp; assumption)))
            intro dn us wz hG hall
            have u24 : us 24 = .bool true := hG.pre 24 (hall 24 (by decide))
            have hbz := hG.below
            refine hK3 _ _ ?_
            simp only [fillA, fillT, Nat.reduceAdd, List.setIfInBounds_toArray, List.set_cons_zero, List.set_cons_succ, u24]
            clear hG hall u24
            have PZ := Lib.hid (HS.out.still hbz)
            clear e2c e3c e5c e6c e7c e8c eb0 eb1 eb2 eb3 eb4 eb5 eb6 ebl eky HH
            refine wpR_cond (t := true) rfl ?_
            refine wpR_seq_k fun K7 hK7 => ?_
            refine wpR_region_lit rfl ?_
            go_wp2_with (refine wpl_st rfl 4 _ _ rfl #[.bool false] rfl _ rfl (PZ.out).p4 (by kernel_rfl) rfl rfl rfl ?_; intro wy A4 O4; have TTT := True.intro)
            refine ⟨rfl, hK7 _ _ ?_⟩
            refine wpR_ret ?_
            obtain ⟨q1, q2⟩ := (PZ.out).stop (by omega) (by omega) (by omega) O4 A4
            exact ⟨{ L with state := .busy }, q1, q2, hnone⟩
    · have HC1 := Lib.hid hc1
      have hio : s.insertOf op = true := HINS.out.2 (by rw [← HOPV.out]; exact Classical.byContradiction fun q => hc1 (.inl q))
      have HIO := Lib.hid hio
      have HNS := Lib.hid (show n ∉ x.seen from fun q => hc1 (.inr (.inl q)))
      have HSEEN := Lib.hid (decide_eq_false HNS.out)
      have HLESS := Lib.hid (show ¬ (s.call op).key < x.last from fun q => hc1 (.inr (.inr (.inl (by rw [HKEY.out]; exact q)))))
      have HOTH := Lib.hid (show bucketOf (s.call op).key s.c.buckets = bucket from Classical.byContradiction fun q => hc1 (.inr (.inr (.inr (fun e => q (by have e' : bucketOf (s.vw.key n) s.c.buckets = bucket := e; rw [← HKEY.out]; exact e'))))))
      rw [hio]
      clear hc1 hio
      refine wpR_seq_k fun K3 hK3 => ?_
      refine wpR_seq_k fun K4 hK4 => ?_
      refine wpR_region_J (l := [_, _, _, _, _, _, _, _, _, _, _, _, _, _, _, _, _, _, _, _, _, _, _, _, _]) (QG (fun j v => match j with | 0 => v = .bool true | 1 => v = .bool false | 2 => v = .bool false | 3 => v = .map (some (w.heap.size + 1 + 1 + 1)) | 4 => v = .int .i64 n | 5 => v = .bool false | 6 => v = .bool false | 7 => v = .bool false | 8 => v = .pointer (some ⟨wc.heap.size, 1, none⟩) | 9 => v = .int .u64 (s.call op).key | 10 => v = .int .u64 x.last | 11 => v = .bool false | 12 => v = .bool false | 13 => v = .bool false | 14 => v = .pointer (some ⟨wc.heap.size, 1, none⟩) | 15 => v = .int .u64 (s.call op).key | 16 => v = .pointer (some ⟨k.bw, 0, none⟩) | 17 => v = .pointer (some ⟨k.bw, 0, none⟩) | 18 => v = .pointer (some ⟨k.bw, 0, none⟩) | 19 => v = .pointer (some ⟨k.bw, 1, none⟩) | 20 => v = .int .i64 s.c.buckets | 21 => v = .int .i64 (bucketOf (s.call op).key s.c.buckets) | 22 => v = .int .i64 bucket | 23 => v = .bool false | 24 => v = .bool false | _ => True) wd) (by kernel_rfl) (by kernel_rfl) (by rfl) (fun us => QG.start us) ⟨?_, ?_, ?_, ?_, ?_, ?_, ?_, ?_, ?_, ?_, ?_, ?_, ?_, ?_, ?_, ?_, ?_, ?_, ?_, ?_, ?_, ?_, ?_, ?_, ?_, trivial⟩ ?_
      · intro dn us w6 A hev hy hG hdn hdep K hK
        have e0 : A.eval (.tmp 12) = .bool true := by rw [hev]; rfl
        rw [if_pos (by rfl)]
        unfold Oper.wp execOp
        generalize A.eval = ev at e0 ⊢
        go_simp
        exact hK _ _ (hG.first (by first | rfl | (simp; done) | (simp; omega) | (simp; assumption)))
      · intro dn us w6 A hev hy hG hdn hdep K hK
        have d0 : dn 0 = true := allD_mem hdep (by decide)
        have e0 : A.eval (.tmp 33) = .bool true := by rw [hev]; exact hG.pre 0 d0
        rw [if_pos (by rfl)]
        unfold Oper.wp execOp
        generalize A.eval = ev at e0 ⊢
        go_simp
        exact hK _ _ (hG.first (by first | rfl | (simp; done) | (simp; omega) | (simp; assumption)))
      · intro dn us w6 A hev hy hG hdn hdep K hK
        have d1 : dn 1 = true := allD_mem hdep (by decide)
        have e0 : A.eval (.tmp 34) = .bool false := by rw [hev]; exact hG.pre 1 d1
        rw [if_pos (by rfl)]
        unfold Oper.wp execOp
        generalize A.eval = ev at e0 ⊢
        go_simp
        exact hK _ _ (hG.first (by first | rfl | (simp; done) | (simp; omega) | (simp; assumption)))
      · intro dn us w6 A hev hy hG hdn hdep K hK
        have d2 : dn 2 = true := allD_mem hdep (by decide)
        have e0 : A.eval (.tmp 5) = .pointer (some ⟨w.heap.size + 1 + 1 + 1 + 1 + 1 + 1, 0, none⟩) := by rw [hev]; rfl
        have cc0 : w6.cell? ⟨w.heap.size + 1 + 1 + 1 + 1 + 1 + 1, 0, none⟩ = some (.map (some (w.heap.size + 1 + 1 + 1))) := by rw [hG.below.cell (World.block_lt_of_cell? _ _ e5c)]; exact e5c
        have hg : us 2 = .bool false := hG.pre 2 d2
        rw [if_pos (by rw [hy]; show ((match us 2 with | .bool b => some b | _ => none) == some false) = true; rw [hg]; rfl)]
        unfold Oper.wp execOp
        generalize A.eval = ev at e0 ⊢
        go_simp
        exact hK _ _ (hG.first (by first | rfl | (simp; done) | (simp; omega) | (simp; assumption)))
      · intro dn us w6 A hev hy hG hdn hdep K hK
        have d2 : dn 2 = true := allD_mem hdep (by decide)
        have e0 : A.eval (.tmp 9) = .int .i64 n := by rw [hev]; rfl
        have hg : us 2 = .bool false := hG.pre 2 d2
        rw [if_pos (by rw [hy]; show ((match us 2 with | .bool b => some b | _ => none) == some false) = true; rw [hg]; rfl)]
        unfold Oper.wp execOp
        generalize A.eval = ev at e0 ⊢
        go_simp
        exact hK _ _ (hG.first (by first | rfl | (simp; done) | (simp; omega) | (simp; assumption)))
      · intro dn us w6 A hev hy hG hdn hdep K hK
        have d2 : dn 2 = true := allD_mem hdep (by decide)
        have d3 : dn 3 = true := allD_mem hdep (by decide)
        have d4 : dn 4 = true := allD_mem hdep (by decide)
        have e0 : A.eval (.tmp 36) = .map (some (w.heap.size + 1 + 1 + 1)) := by rw [hev]; exact hG.pre 3 d3
        have e1 : A.eval (.tmp 37) = .int .i64 n := by rw [hev]; exact hG.pre 4 d4
        have hg : us 2 = .bool false := hG.pre 2 d2
        rw [if_pos (by rw [hy]; show ((match us 2 with | .bool b => some b | _ => none) == some false) = true; rw [hg]; rfl)]
        refine op_has 169 (.tmp 36) (.tmp 37) rfl Tryz.underlying169 Tryz.underlying3 zbool (w.heap.size + 1 + 1 + 1) e0 _ e1 (HS.out.s5.below hG.below) ?_
        exact hK _ _ (hG.first (by show Value.bool _ = Value.bool _; rw [HSEEN.out]))
      · intro dn us w6 A hev hy hG hdn hdep K hK
        have d2 : dn 2 = true := allD_mem hdep (by decide)
        have d5 : dn 5 = true := allD_mem hdep (by decide)
        have e0 : A.eval (.tmp 35) = .bool false := by rw [hev]; exact hG.pre 2 d2
        have e1 : A.eval (.const (.bool true)) = .bool true := by rw [hev]; rfl
        have e2 : A.eval (.tmp 38) = .bool false := by rw [hev]; exact hG.pre 5 d5
        rw [if_pos (by rfl)]
        unfold Oper.wp execOp
        generalize A.eval = ev at e0 e1 e2 ⊢
        go_simp
        exact hK _ _ (hG.first (by first | rfl | (simp; done) | (simp; omega) | (simp; assumption)))
      · intro dn us w6 A hev hy hG hdn hdep K hK
        have d6 : dn 6 = true := allD_mem hdep (by decide)
        have e0 : A.eval (.tmp 39) = .bool false := by rw [hev]; exact hG.pre 6 d6
        rw [if_pos (by rfl)]
        unfold Oper.wp execOp
        generalize A.eval = ev at e0 ⊢
        go_simp
        exact hK _ _ (hG.first (by first | rfl | (simp; done) | (simp; omega) | (simp; assumption)))
      · intro dn us w6 A hev hy hG hdn hdep K hK
        have d7 : dn 7 = true := allD_mem hdep (by decide)
        have e0 : A.eval (.tmp 11) = .pointer (some ⟨wc.heap.size, 0, none⟩) := by rw [hev]; rfl
        have hg : us 7 = .bool false := hG.pre 7 d7
        rw [if_pos (by rw [hy]; show ((match us 7 with | .bool b => some b | _ => none) == some false) = true; rw [hg]; rfl)]
        unfold Oper.wp execOp
        generalize A.eval = ev at e0 ⊢
        go_simp
        exact hK _ _ (hG.first (by first | rfl | (simp; done) | (simp; omega) | (simp; assumption)))
      · intro dn us w6 A hev hy hG hdn hdep K hK
        have d7 : dn 7 = true := allD_mem hdep (by decide)
        have d8 : dn 8 = true := allD_mem hdep (by decide)
        have e0 : A.eval (.tmp 41) = .pointer (some ⟨wc.heap.size, 1, none⟩) := by rw [hev]; exact hG.pre 8 d8
        have cc0 : w6.cell? ⟨wc.heap.size, 1, none⟩ = some (.int .u64 (s.call op).key) := by rw [hG.below.cell (World.block_lt_of_cell? _ _ eky)]; exact eky
        have hg : us 7 = .bool false := hG.pre 7 d7
        rw [if_pos (by rw [hy]; show ((match us 7 with | .bool b => some b | _ => none) == some false) = true; rw [hg]; rfl)]
        unfold Oper.wp execOp
        generalize A.eval = ev at e0 ⊢
        go_simp
        exact hK _ _ (hG.first (by first | rfl | (simp; done) | (simp; omega) | (simp; assumption)))
      · intro dn us w6 A hev hy hG hdn hdep K hK
        have d7 : dn 7 = true := allD_mem hdep (by decide)
        have e0 : A.eval (.tmp 8) = .pointer (some ⟨w.heap.size + 1 + 1 + 1 + 1 + 1 + 1 + 1 + 1 + 1, 0, none⟩) := by rw [hev]; rfl
        have cc0 : w6.cell? ⟨w.heap.size + 1 + 1 + 1 + 1 + 1 + 1 + 1 + 1 + 1, 0, none⟩ = some (.int .u64 x.last) := by rw [hG.below.cell (World.block_lt_of_cell? _ _ e8c)]; exact e8c
        have hg : us 7 = .bool false := hG.pre 7 d7
        rw [if_pos (by rw [hy]; show ((match us 7 with | .bool b => some b | _ => none) == some false) = true; rw [hg]; rfl)]
        unfold Oper.wp execOp
        generalize A.eval = ev at e0 ⊢
        go_simp
        exact hK _ _ (hG.first (by first | rfl | (simp; done) | (simp; omega) | (simp; assumption)))
      · intro dn us w6 A hev hy hG hdn hdep K hK
        have d7 : dn 7 = true := allD_mem hdep (by decide)
        have d9 : dn 9 = true := allD_mem hdep (by decide)
        have d10 : dn 10 = true := allD_mem hdep (by decide)
        have e0 : A.eval (.tmp 42) = .int .u64 (s.call op).key := by rw [hev]; exact hG.pre 9 d9
        have e1 : A.eval (.tmp 43) = .int .u64 x.last := by rw [hev]; exact hG.pre 10 d10
        have hle := HLESS.out
        have hg : us 7 = .bool false := hG.pre 7 d7
        rw [if_pos (by rw [hy]; show ((match us 7 with | .bool b => some b | _ => none) == some false) = true; rw [hg]; rfl)]
        unfold Oper.wp execOp
        generalize A.eval = ev at e0 e1 ⊢
        go_simp
        exact hK _ _ (hG.first (by first | rfl | (simp; done) | (simp; omega) | (simp; assumption)))
      · intro dn us w6 A hev hy hG hdn hdep K hK
        have d7 : dn 7 = true := allD_mem hdep (by decide)
        have d11 : dn 11 = true := allD_mem hdep (by decide)
        have e0 : A.eval (.tmp 40) = .bool false := by rw [hev]; exact hG.pre 7 d7
        have e1 : A.eval (.const (.bool true)) = .bool true := by rw [hev]; rfl
        have e2 : A.eval (.tmp 44) = .bool false := by rw [hev]; exact hG.pre 11 d11
        rw [if_pos (by rfl)]
        unfold Oper.wp execOp
        generalize A.eval = ev at e0 e1 e2 ⊢
        go_simp
        exact hK _ _ (hG.first (by first | rfl | (simp; done) | (simp; omega) | (simp; assumption)))
      · intro dn us w6 A hev hy hG hdn hdep K hK
        have d12 : dn 12 = true := allD_mem hdep (by decide)
        have e0 : A.eval (.tmp 45) = .bool false := by rw [hev]; exact hG.pre 12 d12
        rw [if_pos (by rfl)]
        unfold Oper.wp execOp
        generalize A.eval = ev at e0 ⊢
        go_simp
        exact hK _ _ (hG.first (by first | rfl | (simp; done) | (simp; omega) | (simp; assumption)))
      · intro dn us w6 A hev hy hG hdn hdep K hK
        have d13 : dn 13 = true := allD_mem hdep (by decide)
        have e0 : A.eval (.tmp 11) = .pointer (some ⟨wc.heap.size, 0, none⟩) := by rw [hev]; rfl
        have hg : us 13 = .bool false := hG.pre 13 d13
        rw [if_pos (by rw [hy]; show ((match us 13 with | .bool b => some b | _ => none) == some false) = true; rw [hg]; rfl)]
        unfold Oper.wp execOp
        generalize A.eval = ev at e0 ⊢
        go_simp
        exact hK _ _ (hG.first (by first | rfl | (simp; done) | (simp; omega) | (simp; assumption)))
      · intro dn us w6 A hev hy hG hdn hdep K hK
        have d13 : dn 13 = true := allD_mem hdep (by decide)
        have d14 : dn 14 = true := allD_mem hdep (by decide)
        have e0 : A.eval (.tmp 47) = .pointer (some ⟨wc.heap.size, 1, none⟩) := by rw [hev]; exact hG.pre 14 d14
        have cc0 : w6.cell? ⟨wc.heap.size, 1, none⟩ = some (.int .u64 (s.call op).key) := by rw [hG.below.cell (World.block_lt_of_cell? _ _ eky)]; exact eky
        have hg : us 13 = .bool false := hG.pre 13 d13
        rw [if_pos (by rw [hy]; show ((match us 13 with | .bool b => some b | _ => none) == some false) = true; rw [hg]; rfl)]
        unfold Oper.wp execOp
        generalize A.eval = ev at e0 ⊢
        go_simp
        exact hK _ _ (hG.first (by first | rfl | (simp; done) | (simp; omega) | (simp; assumption)))
      · intro dn us w6 A hev hy hG hdn hdep K hK
        have d13 : dn 13 = true := allD_mem hdep (by decide)
        have e0 : A.eval (.tmp 2) = .pointer (some ⟨w.heap.size, 0, none⟩) := by rw [hev]; rfl
        have cc0 : w6.cell? ⟨w.heap.size, 0, none⟩ = some (.pointer (some ⟨k.bw, 0, none⟩)) := by rw [hG.below.cell (World.block_lt_of_cell? _ _ e2c)]; exact e2c
        have hg : us 13 = .bool false := hG.pre 13 d13
        rw [if_pos (by rw [hy]; show ((match us 13 with | .bool b => some b | _ => none) == some false) = true; rw [hg]; rfl)]
        unfold Oper.wp execOp
        generalize A.eval = ev at e0 ⊢
        go_simp
        exact hK _ _ (hG.first (by first | rfl | (simp; done) | (simp; omega) | (simp; assumption)))
      · intro dn us w6 A hev hy hG hdn hdep K hK
        have d13 : dn 13 = true := allD_mem hdep (by decide)
        have d16 : dn 16 = true := allD_mem hdep (by decide)
        have e0 : A.eval (.tmp 49) = .pointer (some ⟨k.bw, 0, none⟩) := by rw [hev]; exact hG.pre 16 d16
        have hg : us 13 = .bool false := hG.pre 13 d13
        rw [if_pos (by rw [hy]; show ((match us 13 with | .bool b => some b | _ => none) == some false) = true; rw [hg]; rfl)]
        unfold Oper.wp execOp
        generalize A.eval = ev at e0 ⊢
        go_simp
        exact hK _ _ (hG.first (by first | rfl | (simp; done) | (simp; omega) | (simp; assumption)))
      · intro dn us w6 A hev hy hG hdn hdep K hK
        have d13 : dn 13 = true := allD_mem hdep (by decide)
        have d17 : dn 17 = true := allD_mem hdep (by decide)
        have e0 : A.eval (.tmp 50) = .pointer (some ⟨k.bw, 0, none⟩) := by rw [hev]; exact hG.pre 17 d17
        have hg : us 13 = .bool false := hG.pre 13 d13
        rw [if_pos (by rw [hy]; show ((match us 13 with | .bool b => some b | _ => none) == some false) = true; rw [hg]; rfl)]
        unfold Oper.wp execOp
        generalize A.eval = ev at e0 ⊢
        go_simp
        exact hK _ _ (hG.first (by first | rfl | (simp; done) | (simp; omega) | (simp; assumption)))
      · intro dn us w6 A hev hy hG hdn hdep K hK
        have d13 : dn 13 = true := allD_mem hdep (by decide)
        have d18 : dn 18 = true := allD_mem hdep (by decide)
        have e0 : A.eval (.tmp 51) = .pointer (some ⟨k.bw, 0, none⟩) := by rw [hev]; exact hG.pre 18 d18
        have hg : us 13 = .bool false := hG.pre 13 d13
        rw [if_pos (by rw [hy]; show ((match us 13 with | .bool b => some b | _ => none) == some false) = true; rw [hg]; rfl)]
        unfold Oper.wp execOp
        generalize A.eval = ev at e0 ⊢
        go_simp
        exact hK _ _ (hG.first (by first | rfl | (simp; done) | (simp; omega) | (simp; assumption)))
      · intro dn us w6 A hev hy hG hdn hdep K hK
        have d13 : dn 13 = true := allD_mem hdep (by decide)
        have d19 : dn 19 = true := allD_mem hdep (by decide)
        have e0 : A.eval (.tmp 52) = .pointer (some ⟨k.bw, 1, none⟩) := by rw [hev]; exact hG.pre 19 d19
        have cc0 : w6.cell? ⟨k.bw, 1, none⟩ = some (.int .i64 s.c.buckets) := by rw [hG.below.cell (World.block_lt_of_cell? _ _ eb1)]; exact eb1
        have hg : us 13 = .bool false := hG.pre 13 d13
        rw [if_pos (by rw [hy]; show ((match us 13 with | .bool b => some b | _ => none) == some false) = true; rw [hg]; rfl)]
        unfold Oper.wp execOp
        generalize A.eval = ev at e0 ⊢
        go_simp
        exact hK _ _ (hG.first (by first | rfl | (simp; done) | (simp; omega) | (simp; assumption)))
      · intro dn us w6 A hev hy hG hdn hdep K hK
        have d13 : dn 13 = true := allD_mem hdep (by decide)
        have d15 : dn 15 = true := allD_mem hdep (by decide)
        have d20 : dn 20 = true := allD_mem hdep (by decide)
        have e0 : A.eval (.tmp 48) = .int .u64 (s.call op).key := by rw [hev]; exact hG.pre 15 d15
        have e1 : A.eval (.tmp 53) = .int .i64 s.c.buckets := by rw [hev]; exact hG.pre 20 d20
        have ef : A.eval (.func 164) = .func (.func 164) #[] #[] := by rw [hev]; rfl
        have hg : us 13 = .bool false := hG.pre 13 d13
        rw [if_pos (by rw [hy]; show ((match us 13 with | .bool b => some b | _ => none) == some false) = true; rw [hg]; rfl)]
        unfold Oper.wp execOp
        generalize A.eval = ev at e0 e1 ef ⊢
        go_simp
        refine (bucket_any (s.call op).key s.c.buckets _).mono ?_
        rintro e wq ⟨rfl, hb⟩
        exact hK _ _ (hG.called rfl hb)
      · intro dn us w6 A hev hy hG hdn hdep K hK
        have d13 : dn 13 = true := allD_mem hdep (by decide)
        have e0 : A.eval (.tmp 3) = .pointer (some ⟨w.heap.size + 1, 0, none⟩) := by rw [hev]; rfl
        have cc0 : w6.cell? ⟨w.heap.size + 1, 0, none⟩ = some (.int .i64 bucket) := by rw [hG.below.cell (World.block_lt_of_cell? _ _ e3c)]; exact e3c
        have hg : us 13 = .bool false := hG.pre 13 d13
        rw [if_pos (by rw [hy]; show ((match us 13 with | .bool b => some b | _ => none) == some false) = true; rw [hg]; rfl)]
        unfold Oper.wp execOp
        generalize A.eval = ev at e0 ⊢
        go_simp
        exact hK _ _ (hG.first (by first | rfl | (simp; done) | (simp; omega) | (simp; assumption)))
      · intro dn us w6 A hev hy hG hdn hdep K hK
        have d13 : dn 13 = true := allD_mem hdep (by decide)
        have d21 : dn 21 = true := allD_mem hdep (by decide)
        have d22 : dn 22 = true := allD_mem hdep (by decide)
        have e0 : A.eval (.tmp 54) = .int .i64 (bucketOf (s.call op).key s.c.buckets) := by rw [hev]; exact hG.pre 21 d21
        have e1 : A.eval (.tmp 55) = .int .i64 bucket := by rw [hev]; exact hG.pre 22 d22
        have hle := HOTH.out
        have hg : us 13 = .bool false := hG.pre 13 d13
        rw [if_pos (by rw [hy]; show ((match us 13 with | .bool b => some b | _ => none) == some false) = true; rw [hg]; rfl)]
        unfold Oper.wp execOp
        generalize A.eval = ev at e0 e1 ⊢
        go_simp
        exact hK _ _ (hG.first (by first | rfl | (simp; done) | (simp; omega) | (simp; assumption)))
      · intro dn us w6 A hev hy hG hdn hdep K hK
        have d13 : dn 13 = true := allD_mem hdep (by decide)
        have d23 : dn 23 = true := allD_mem hdep (by decide)
        have e0 : A.eval (.tmp 46) = .bool false := by rw [hev]; exact hG.pre 13 d13
        have e1 : A.eval (.const (.bool true)) = .bool true := by rw [hev]; rfl
        have e2 : A.eval (.tmp 56) = .bool false := by rw [hev]; exact hG.pre 23 d23
        rw [if_pos (by rfl)]
        unfold Oper.wp execOp
        generalize A.eval = ev at e0 e1 e2 ⊢
        go_simp
        exact hK _ _ (hG.first (by first | rfl | (simp; done) | (simp; omega) | (simp; assumption)))
      intro dn us we hG hall
      have u24 : us 24 = .bool false := hG.pre 24 (hall 24 (by decide))
      have hbz := hG.below
      refine hK4 _ _ ?_
      simp only [fillA, fillT, Nat.reduceAdd, List.setIfInBounds_toArray, List.set_cons_zero, List.set_cons_succ, u24]
      clear hG hall u24
      have PZ := HS.out.still hbz
      have ekz : we.cell? ⟨wc.heap.size, 1, none⟩ = some (.int .u64 (s.call op).key) := by rw [hbz.cell (World.block_lt_of_cell? _ _ eky)]; exact eky
      have zwe := hbz.size
      have zwd := A11.lt
      clear e2c e3c e5c e6c e7c e8c eb0 eb1 eb2 eb3 eb4 eb5 eb6 ebl eky HH
      clear HS A11 hbz
      have HS := Lib.hid (PZ)
      have e2c : we.cell? ⟨w.heap.size, 0, none⟩ = some (.pointer (some ⟨k.bw, 0, none⟩)) := HS.out.p2.cell 0
      have e3c : we.cell? ⟨w.heap.size + 1, 0, none⟩ = some (.int .i64 bucket) := HS.out.p3.cell 0
      have e5c : we.cell? ⟨w.heap.size + 1 + 1 + 1 + 1 + 1 + 1, 0, none⟩ = some (.map (some (w.heap.size + 1 + 1 + 1))) := HS.out.m5.cell 0
      have e6c : we.cell? ⟨w.heap.size + 1 + 1 + 1 + 1 + 1 + 1 + 1, 0, none⟩ = some (.map (some (w.heap.size + 1 + 1 + 1 + 1))) := HS.out.m6.cell 0
      have e7c : we.cell? ⟨w.heap.size + 1 + 1 + 1 + 1 + 1 + 1 + 1 + 1, 0, none⟩ = some (.map (some (w.heap.size + 1 + 1 + 1 + 1 + 1))) := HS.out.m7.cell 0
      have e8c : we.cell? ⟨w.heap.size + 1 + 1 + 1 + 1 + 1 + 1 + 1 + 1 + 1, 0, none⟩ = some (.int .u64 _) := HS.out.p8.cell 0
      have HH := Lib.hid (H.out.below HS.out.below)
      obtain ⟨⟨eb0, eb1, eb2, eb3, eb4⟩, eb5, eb6, ebl⟩ := HH.out.wfacts
      have eky : we.cell? ⟨wc.heap.size, 1, none⟩ = some (.int .u64 (s.call op).key) := ekz
      clear PZ ekz
      refine wpR_cond (t := false) rfl (wpR_skip ?_)
      refine hK3 _ _ ?_
      have n0 : ¬ (w.heap.size + 1 + 1 + 1 + 1 + 1 + 1 = w.heap.size + 1 + 1 + 1 ∨ w.heap.size + 1 + 1 + 1 + 1 + 1 + 1 = w.heap.size + 1 + 1 + 1 + 1 + 1 + 1 + 1 + 1 + 1) := by omega
      have n1 : ¬ (wc.heap.size = w.heap.size + 1 + 1 + 1 ∨ wc.heap.size = w.heap.size + 1 + 1 + 1 + 1 + 1 + 1 + 1 + 1 + 1) := by omega
      have n45 : w.heap.size + 1 + 1 + 1 ≠ w.heap.size + 1 + 1 + 1 + 1 + 1 + 1 + 1 + 1 + 1 := by omega
      have hs5d : SetAt we.drew (w.heap.size + 1 + 1 + 1) .i64 x.seen := HS.out.s5
      have hp8d : At we.drew (w.heap.size + 1 + 1 + 1 + 1 + 1 + 1 + 1 + 1 + 1) 26 #[.int .u64 x.last] := HS.out.p8
      refine wpR_seq_k fun K5 hK5 => ?_
      refine wpR_region_J (l := [_, _, _, _, _, _]) (SetG2 (w.heap.size + 1 + 1 + 1) (w.heap.size + 1 + 1 + 1 + 1 + 1 + 1 + 1 + 1 + 1) .i64 26 x.seen (addS x.seen n) #[.int .u64 x.last] #[.int .u64 (s.call op).key] (fun j v => match j with | 0 => v = .map (some (w.heap.size + 1 + 1 + 1)) | 1 => v = .int .i64 n | 2 => v = .pointer (some ⟨wc.heap.size, 1, none⟩) | 3 => v = .int .u64 (s.call op).key | _ => True) we.drew) (by kernel_rfl) (by kernel_rfl) (by rfl) (fun us => SetG2.start us hs5d hp8d) ⟨?_, ?_, ?_, ?_, ?_, ?_, trivial⟩ ?_
      · intro dn us w6 A hev hy hG hdn hdep K hK
        have e0 : A.eval (.tmp 5) = .pointer (some ⟨w.heap.size + 1 + 1 + 1 + 1 + 1 + 1, 0, none⟩) := by rw [hev]; rfl
        have cc0 : w6.cell? ⟨w.heap.size + 1 + 1 + 1 + 1 + 1 + 1, 0, none⟩ = some (.map (some (w.heap.size + 1 + 1 + 1))) := cell_only (w := we.drew) e5c hG.only (by show ¬ (_ = _ ∨ _ = _); exact n0)
        rw [if_pos (by rfl)]
        unfold Oper.wp execOp
        generalize A.eval = ev at e0 ⊢
        go_simp
        exact hK _ _ (hG.first (by decide) (by decide) (by first | rfl | (simp; done) | (simp; omega) | (simp; assumption)))
      · intro dn us w6 A hev hy hG hdn hdep K hK
        have e0 : A.eval (.tmp 9) = .int .i64 n := by rw [hev]; rfl
        rw [if_pos (by rfl)]
        unfold Oper.wp execOp
        generalize A.eval = ev at e0 ⊢
        go_simp
        exact hK _ _ (hG.first (by decide) (by decide) (by first | rfl | (simp; done) | (simp; omega) | (simp; assumption)))
      · intro dn us w6 A hev hy hG hdn hdep K hK
        have e0 : A.eval (.tmp 11) = .pointer (some ⟨wc.heap.size, 0, none⟩) := by rw [hev]; rfl
        rw [if_pos (by rfl)]
        unfold Oper.wp execOp
        generalize A.eval = ev at e0 ⊢
        go_simp
        exact hK _ _ (hG.first (by decide) (by decide) (by first | rfl | (simp; done) | (simp; omega) | (simp; assumption)))
      · intro dn us w6 A hev hy hG hdn hdep K hK
        have d2 : dn 2 = true := allD_mem hdep (by decide)
        have e0 : A.eval (.tmp 60) = .pointer (some ⟨wc.heap.size, 1, none⟩) := by rw [hev]; exact hG.pre 2 (by decide) (by decide) d2
        have cc0 : w6.cell? ⟨wc.heap.size, 1, none⟩ = some (.int .u64 (s.call op).key) := cell_only (w := we.drew) eky hG.only (by show ¬ (_ = _ ∨ _ = _); exact n1)
        rw [if_pos (by rfl)]
        unfold Oper.wp execOp
        generalize A.eval = ev at e0 ⊢
        go_simp
        exact hK _ _ (hG.first (by decide) (by decide) (by first | rfl | (simp; done) | (simp; omega) | (simp; assumption)))
      · intro dn us w6 A hev hy hG hdn hdep K hK
        have d0 : dn 0 = true := allD_mem hdep (by decide)
        have d1 : dn 1 = true := allD_mem hdep (by decide)
        have e0 : A.eval (.tmp 58) = .map (some (w.heap.size + 1 + 1 + 1)) := by rw [hev]; exact hG.pre 0 (by decide) (by decide) d0
        have e1 : A.eval (.tmp 59) = .int .i64 n := by rw [hev]; exact hG.pre 1 (by decide) (by decide) d1
        have e2 : A.eval (.const (.bool true)) = .bool true := by rw [hev]; rfl
        rw [if_pos (by rfl)]
        refine op_add 169 (.tmp 58) (.tmp 59) (.const (.bool true)) rfl Tryz.underlying169 Tryz.underlying3 (w.heap.size + 1 + 1 + 1) e0 _ e1 e2 (hG.oldS hdn) fun w7 hM7 O7 => ?_
        exact hK _ _ (hG.laidS n45 O7 hM7)
      · intro dn us w6 A hev hy hG hdn hdep K hK
        have d3 : dn 3 = true := allD_mem hdep (by decide)
        have e0 : A.eval (.tmp 8) = .pointer (some ⟨w.heap.size + 1 + 1 + 1 + 1 + 1 + 1 + 1 + 1 + 1, 0, none⟩) := by rw [hev]; rfl
        have e1 : A.eval (.tmp 61) = .int .u64 (s.call op).key := by rw [hev]; exact hG.pre 3 (by decide) (by decide) d3
        refine step_list (wpl_st rfl 26 (.tmp 8) (.tmp 61) rfl #[.int .u64 (s.call op).key] e0 _ e1 (hG.oldA hdn) (by kernel_rfl) rfl rfl rfl fun w7 A7 O7 => ⟨rfl, ?_⟩)
        exact hK _ _ (hG.laidA n45 O7 A7)
      intro dn us wf hG hall
      have hSf := hG.set
      have hAf := hG.at_
      rw [hall 4 (by decide)] at hSf
      rw [hall 5 (by decide)] at hAf
      have hOf := hG.only
      refine hK5 _ _ ?_
      simp only [fillA, fillT, Nat.reduceAdd, List.setIfInBounds_toArray, List.set_cons_zero, List.set_cons_succ]
      clear hG hall
      have hSf : SetAt wf (w.heap.size + 1 + 1 + 1) .i64 (addS x.seen n) := hSf
      have hAf : At wf (w.heap.size + 1 + 1 + 1 + 1 + 1 + 1 + 1 + 1 + 1) 26 #[.int .u64 (s.call op).key] := hAf
      rw [show addS x.seen n = x.seen ++ [n] from if_neg HNS.out] at hSf
      have PD : SInv k bucket w wC.heap.size (w5.heap.size + 1) w5.heap.size { L with state := .busy } x we.drew := HS.out.still ((Below.refl _ _).drew)
      have PZ := PD.met (by omega) (by omega) (by omega) hOf hSf hAf
      have ekz := cell_only (show we.drew.cell? ⟨wc.heap.size, 1, none⟩ = some (.int .u64 (s.call op).key) from eky) hOf n1
      have zwf := hOf.size
      clear e2c e3c e5c e6c e7c e8c eb0 eb1 eb2 eb3 eb4 eb5 eb6 ebl eky HH
      clear HS hs5d hp8d hOf hSf hAf PD
      have HS := Lib.hid (PZ)
      have e2c : wf.cell? ⟨w.heap.size, 0, none⟩ = some (.pointer (some ⟨k.bw, 0, none⟩)) := HS.out.p2.cell 0
      have e3c : wf.cell? ⟨w.heap.size + 1, 0, none⟩ = some (.int .i64 bucket) := HS.out.p3.cell 0
      have e5c : wf.cell? ⟨w.heap.size + 1 + 1 + 1 + 1 + 1 + 1, 0, none⟩ = some (.map (some (w.heap.size + 1 + 1 + 1))) := HS.out.m5.cell 0
      have e6c : wf.cell? ⟨w.heap.size + 1 + 1 + 1 + 1 + 1 + 1 + 1, 0, none⟩ = some (.map (some (w.heap.size + 1 + 1 + 1 + 1))) := HS.out.m6.cell 0
      have e7c : wf.cell? ⟨w.heap.size + 1 + 1 + 1 + 1 + 1 + 1 + 1 + 1, 0, none⟩ = some (.map (some (w.heap.size + 1 + 1 + 1 + 1 + 1))) := HS.out.m7.cell 0
      have e8c : wf.cell? ⟨w.heap.size + 1 + 1 + 1 + 1 + 1 + 1 + 1 + 1 + 1, 0, none⟩ = some (.int .u64 _) := HS.out.p8.cell 0
      have HH := Lib.hid (H.out.below HS.out.below)
      obtain ⟨⟨eb0, eb1, eb2, eb3, eb4⟩, eb5, eb6, ebl⟩ := HH.out.wfacts
      have eky : wf.cell? ⟨wc.heap.size, 1, none⟩ = some (.int .u64 (s.call op).key) := ekz
      clear PZ ekz
      refine wpR_seq_k fun K6 hK6 => ?_
      by_cases hov : 1 < s.peek (s.wordAt op)
      · have HOVER := Lib.hid (decide_eq_true hov)
        have HOV := Lib.hid hov
        clear hov
        refine wpR_region_J (l := [_, _, _, _, _, _, _, _, _, _, _, _, _]) (QG (fun j v => match j with | 0 => v = .pointer (some ⟨k.bw, 0, none⟩) | 1 => v = .pointer (some ⟨k.bw, 0, none⟩) | 2 => v = .pointer (some ⟨k.bw, 5, none⟩) | 3 => v = .pointer (some ⟨k.bc, 0, none⟩) | 4 => v = .pointer (some ⟨k.bw, 0, none⟩) | 5 => v = .pointer (some ⟨k.bw, 0, none⟩) | 6 => v = .pointer (some ⟨k.bw, 0, none⟩) | 7 => v = s.c.val | 8 => v = .int .i64 op | 9 => v = .int .i64 (s.wordAt op) | 10 => v = .int .u64 (s.peek (s.wordAt op)) | 11 => v = .bool true | 12 => v = .bool true | _ => True) wf) (by kernel_rfl) (by kernel_rfl) (by rfl) (fun us => QG.start us) ⟨?_, ?_, ?_, ?_, ?_, ?_, ?_, ?_, ?_, ?_, ?_, ?_, ?_, trivial⟩ ?_
        · intro dn us w6 A hev hy hG hdn hdep K hK
          have e0 : A.eval (.tmp 2) = .pointer (some ⟨w.heap.size, 0, none⟩) := by rw [hev]; rfl
          have cc0 : w6.cell? ⟨w.heap.size, 0, none⟩ = some (.pointer (some ⟨k.bw, 0, none⟩)) := by rw [hG.below.cell (World.block_lt_of_cell? _ _ e2c)]; exact e2c
          rw [if_pos (by rfl)]
          unfold Oper.wp execOp
          generalize A.eval = ev at e0 ⊢
          go_simp
          exact hK _ _ (hG.first (by first | rfl | (simp; done) | (simp; omega) | (simp; assumption)))
        · intro dn us w6 A hev hy hG hdn hdep K hK
          have d0 : dn 0 = true := allD_mem hdep (by decide)
          have e0 : A.eval (.tmp 62) = .pointer (some ⟨k.bw, 0, none⟩) := by rw [hev]; exact hG.pre 0 d0
          rw [if_pos (by rfl)]
          unfold Oper.wp execOp
          generalize A.eval = ev at e0 ⊢
          go_simp
          exact hK _ _ (hG.first (by first | rfl | (simp; done) | (simp; omega) | (simp; assumption)))
        · intro dn us w6 A hev hy hG hdn hdep K hK
          have d1 : dn 1 = true := allD_mem hdep (by decide)
          have e0 : A.eval (.tmp 63) = .pointer (some ⟨k.bw, 0, none⟩) := by rw [hev]; exact hG.pre 1 d1
          rw [if_pos (by rfl)]
          unfold Oper.wp execOp
          generalize A.eval = ev at e0 ⊢
          go_simp
          exact hK _ _ (hG.first (by first | rfl | (simp; done) | (simp; omega) | (simp; assumption)))
        · intro dn us w6 A hev hy hG hdn hdep K hK
          have d2 : dn 2 = true := allD_mem hdep (by decide)
          have e0 : A.eval (.tmp 64) = .pointer (some ⟨k.bw, 5, none⟩) := by rw [hev]; exact hG.pre 2 d2
          have cc0 : w6.cell? ⟨k.bw, 5, none⟩ = some (.pointer (some ⟨k.bc, 0, none⟩)) := by rw [hG.below.cell (World.block_lt_of_cell? _ _ eb5)]; exact eb5
          rw [if_pos (by rfl)]
          unfold Oper.wp execOp
          generalize A.eval = ev at e0 ⊢
          go_simp
          exact hK _ _ (hG.first (by first | rfl | (simp; done) | (simp; omega) | (simp; assumption)))
        · intro dn us w6 A hev hy hG hdn hdep K hK
          have e0 : A.eval (.tmp 2) = .pointer (some ⟨w.heap.size, 0, none⟩) := by rw [hev]; rfl
          have cc0 : w6.cell? ⟨w.heap.size, 0, none⟩ = some (.pointer (some ⟨k.bw, 0, none⟩)) := by rw [hG.below.cell (World.block_lt_of_cell? _ _ e2c)]; exact e2c
          rw [if_pos (by rfl)]
          unfold Oper.wp execOp
          generalize A.eval = ev at e0 ⊢
          go_simp
          exact hK _ _ (hG.first (by first | rfl | (simp; done) | (simp; omega) | (simp; assumption)))
        · intro dn us w6 A hev hy hG hdn hdep K hK
          have d4 : dn 4 = true := allD_mem hdep (by decide)
          have e0 : A.eval (.tmp 66) = .pointer (some ⟨k.bw, 0, none⟩) := by rw [hev]; exact hG.pre 4 d4
          rw [if_pos (by rfl)]
          unfold Oper.wp execOp
          generalize A.eval = ev at e0 ⊢
          go_simp
          exact hK _ _ (hG.first (by first | rfl | (simp; done) | (simp; omega) | (simp; assumption)))
        · intro dn us w6 A hev hy hG hdn hdep K hK
          have d5 : dn 5 = true := allD_mem hdep (by decide)
          have e0 : A.eval (.tmp 67) = .pointer (some ⟨k.bw, 0, none⟩) := by rw [hev]; exact hG.pre 5 d5
          rw [if_pos (by rfl)]
          unfold Oper.wp execOp
          generalize A.eval = ev at e0 ⊢
          go_simp
          exact hK _ _ (hG.first (by first | rfl | (simp; done) | (simp; omega) | (simp; assumption)))
        · intro dn us w6 A hev hy hG hdn hdep K hK
          have d6 : dn 6 = true := allD_mem hdep (by decide)
          have e0 : A.eval (.tmp 68) = .pointer (some ⟨k.bw, 0, none⟩) := by rw [hev]; exact hG.pre 6 d6
          have cc0 : w6.cell? ⟨k.bw, 0, none⟩ = some (.int .i64 s.c.threads) := by rw [hG.below.cell (World.block_lt_of_cell? _ _ eb0)]; exact eb0
          have cc1 : w6.cell? ⟨k.bw, 1, none⟩ = some (.int .i64 s.c.buckets) := by rw [hG.below.cell (World.block_lt_of_cell? _ _ eb1)]; exact eb1
          have cc2 : w6.cell? ⟨k.bw, 2, none⟩ = some (.int .i64 s.c.inserts) := by rw [hG.below.cell (World.block_lt_of_cell? _ _ eb2)]; exact eb2
          have cc3 : w6.cell? ⟨k.bw, 3, none⟩ = some (.int .i64 s.c.fuel) := by rw [hG.below.cell (World.block_lt_of_cell? _ _ eb3)]; exact eb3
          have cc4 : w6.cell? ⟨k.bw, 4, none⟩ = some (.int .i64 s.c.calls) := by rw [hG.below.cell (World.block_lt_of_cell? _ _ eb4)]; exact eb4
          rw [if_pos (by rfl)]
          unfold Oper.wp execOp
          generalize A.eval = ev at e0 ⊢
          go_simp
          exact hK _ _ (hG.first (by first | rfl | (simp; done) | (simp; omega) | (simp; assumption)))
        · intro dn us w6 A hev hy hG hdn hdep K hK
          have e0 : A.eval (.tmp 10) = .int .i64 op := by rw [hev]; rfl
          rw [if_pos (by rfl)]
          unfold Oper.wp execOp
          generalize A.eval = ev at e0 ⊢
          go_simp
          exact hK _ _ (hG.first (by first | rfl | (simp; done) | (simp; omega) | (simp; assumption)))
        · intro dn us w6 A hev hy hG hdn hdep K hK
          have d7 : dn 7 = true := allD_mem hdep (by decide)
          have d8 : dn 8 = true := allD_mem hdep (by decide)
          have e0 : A.eval (.tmp 69) = s.c.val := by rw [hev]; exact hG.pre 7 d7
          have e1 : A.eval (.tmp 70) = .int .i64 op := by rw [hev]; exact hG.pre 8 d8
          have ef : A.eval (.func 101) = .func (.func 101) #[] #[] := by rw [hev]; rfl
          rw [if_pos (by rfl)]
          unfold Oper.wp execOp
          generalize A.eval = ev at e0 e1 ef ⊢
          go_simp
          refine (word_any s.c op _ HM.out).mono ?_
          rintro e wq ⟨rfl, hb⟩
          exact hK _ _ (hG.called rfl hb)
        · intro dn us w6 A hev hy hG hdn hdep K hK
          have d3 : dn 3 = true := allD_mem hdep (by decide)
          have d9 : dn 9 = true := allD_mem hdep (by decide)
          have e0 : A.eval (.tmp 65) = .pointer (some ⟨k.bc, 0, none⟩) := by rw [hev]; exact hG.pre 3 d3
          have e1 : A.eval (.tmp 71) = .int .i64 (s.wordAt op) := by rw [hev]; exact hG.pre 9 d9
          have ef : A.eval (.func 45) = .func (.func 45) #[] #[] := by rw [hev]; rfl
          rw [if_pos (by rfl)]
          unfold Oper.wp execOp
          generalize A.eval = ev at e0 e1 ef ⊢
          go_simp
          refine (peek_any (s.wordAt op) _ (HH.out.cells.below hG.below)).mono ?_
          rintro e wq ⟨rfl, rfl⟩
          exact hK _ _ (hG.first rfl)
        · intro dn us w6 A hev hy hG hdn hdep K hK
          have d10 : dn 10 = true := allD_mem hdep (by decide)
          have e0 : A.eval (.tmp 72) = .int .u64 (s.peek (s.wordAt op)) := by rw [hev]; exact hG.pre 10 d10
          have ef : A.eval (.func 157) = .func (.func 157) #[] #[] := by rw [hev]; rfl
          rw [if_pos (by rfl)]
          unfold Oper.wp execOp
          generalize A.eval = ev at e0 ef ⊢
          go_simp
          refine (over_any (s.peek (s.wordAt op)) _).mono ?_
          rintro e wq ⟨rfl, rfl⟩
          exact hK _ _ (hG.first (by show Value.bool _ = Value.bool _; rw [HOVER.out]))
        · intro dn us w6 A hev hy hG hdn hdep K hK
          have d11 : dn 11 = true := allD_mem hdep (by decide)
          have e0 : A.eval (.tmp 73) = .bool true := by rw [hev]; exact hG.pre 11 d11
          rw [if_pos (by rfl)]
          unfold Oper.wp execOp
          generalize A.eval = ev at e0 ⊢
          go_simp
          exact hK _ _ (hG.first (by first | rfl | (simp; done) | (simp; omega) | (simp; assumption)))
        intro dn us wh hG hall
        have u12 : us 12 = .bool true := hG.pre 12 (hall 12 (by decide))
        have hbz := hG.below
        refine hK6 _ _ ?_
        simp only [fillA, fillT, Nat.reduceAdd, List.setIfInBounds_toArray, List.set_cons_zero, List.set_cons_succ, u12]
        clear hG hall u12
        have PZ := HS.out.still hbz
        have ekz : wh.cell? ⟨wc.heap.size, 1, none⟩ = some (.int .u64 (s.call op).key) := by rw [hbz.cell (World.block_lt_of_cell? _ _ eky)]; exact eky
        have zwh := hbz.size
        clear e2c e3c e5c e6c e7c e8c eb0 eb1 eb2 eb3 eb4 eb5 eb6 ebl eky HH
        clear HS hbz
        have HS := Lib.hid (PZ)
        have e2c : wh.cell? ⟨w.heap.size, 0, none⟩ = some (.pointer (some ⟨k.bw, 0, none⟩)) := HS.out.p2.cell 0
        have e3c : wh.cell? ⟨w.heap.size + 1, 0, none⟩ = some (.int .i64 bucket) := HS.out.p3.cell 0
        have e5c : wh.cell? ⟨w.heap.size + 1 + 1 + 1 + 1 + 1 + 1, 0, none⟩ = some (.map (some (w.heap.size + 1 + 1 + 1))) := HS.out.m5.cell 0
        have e6c : wh.cell? ⟨w.heap.size + 1 + 1 + 1 + 1 + 1 + 1 + 1, 0, none⟩ = some (.map (some (w.heap.size + 1 + 1 + 1 + 1))) := HS.out.m6.cell 0
        have e7c : wh.cell? ⟨w.heap.size + 1 + 1 + 1 + 1 + 1 + 1 + 1 + 1, 0, none⟩ = some (.map (some (w.heap.size + 1 + 1 + 1 + 1 + 1))) := HS.out.m7.cell 0
        have e8c : wh.cell? ⟨w.heap.size + 1 + 1 + 1 + 1 + 1 + 1 + 1 + 1 + 1, 0, none⟩ = some (.int .u64 _) := HS.out.p8.cell 0
        have HH := Lib.hid (H.out.below HS.out.below)
        obtain ⟨⟨eb0, eb1, eb2, eb3, eb4⟩, eb5, eb6, ebl⟩ := HH.out.wfacts
        have eky : wh.cell? ⟨wc.heap.size, 1, none⟩ = some (.int .u64 (s.call op).key) := ekz
        clear PZ ekz
        have hst : s.vw.sndStep bucket x n = some ⟨x.seen ++ [n], addS x.again op, x.opn, (s.call op).key⟩ := by
          unfold Vw.sndStep
          rw [if_neg HC1.out, HOPV.out, HKEY.out]
          exact if_pos (.inr HOV.out)
        by_cases hag : op ∈ x.again
        · have HAG := Lib.hid (decide_eq_true hag)
          clear hag
          refine wpR_seq_k fun K7 hK7 => ?_
          refine wpR_seq_k fun K8 hK8 => ?_
          refine wpR_region_lit rfl ?_
          go_wp2_with (refine wpl_op (by rfl) (op_has 169 _ _ rfl Tryz.underlying169 Tryz.underlying3 zbool (w.heap.size + 1 + 1 + 1 + 1) rfl _ rfl HS.out.s6 ?_); rw [HAG.out])
          refine ⟨rfl, hK8 _ _ ?_⟩
          refine wpR_cond (t := true) rfl ?_
          refine wpR_seq_k fun K9 hK9 => ?_
          refine wpR_region_lit rfl ?_
          go_wp2_with (refine wpl_op (by rfl) (op_add 169 _ _ _ rfl Tryz.underlying169 Tryz.underlying3 (w.heap.size + 1 + 1 + 1 + 1) rfl _ rfl rfl HS.out.s6 fun wz hMz Oz => ?_))
          refine ⟨rfl, hK9 _ _ ?_⟩
          refine wpR_exit ?_
          have PP := HS.out.agn (by omega) (by omega) (by omega) Oz hMz
          refine ⟨{ L with state := .busy }, PP.loop, ?_⟩
          rw [roundEnd_busy hs hp]
          exact ⟨_, by rw [HT.out, sndSt_snoc, HX.out]; exact hst, PP.put (by omega) (by omega) (by omega)⟩
        · have HAG := Lib.hid (decide_eq_false hag)
          clear hag
          refine wpR_seq_k fun K7 hK7 => ?_
          refine wpR_seq_k fun K8 hK8 => ?_
          refine wpR_region_lit rfl ?_
          go_wp2_with (refine wpl_op (by rfl) (op_has 169 _ _ rfl Tryz.underlying169 Tryz.underlying3 zbool (w.heap.size + 1 + 1 + 1 + 1) rfl _ rfl HS.out.s6 ?_); rw [HAG.out])
          refine ⟨rfl, hK8 _ _ ?_⟩
          refine wpR_cond (t := true) rfl ?_
          refine wpR_seq_k fun K9 hK9 => ?_
          refine wpR_region_lit rfl ?_
          go_wp2_with (refine wpl_op (by rfl) (op_add 169 _ _ _ rfl Tryz.underlying169 Tryz.underlying3 (w.heap.size + 1 + 1 + 1 + 1) rfl _ rfl rfl HS.out.s6 fun wz hMz Oz => ?_))
          refine ⟨rfl, hK9 _ _ ?_⟩
          refine wpR_exit ?_
          have PP := HS.out.agn (by omega) (by omega) (by omega) Oz hMz
          refine ⟨{ L with state := .busy }, PP.loop, ?_⟩
          rw [roundEnd_busy hs hp]
          exact ⟨_, by rw [HT.out, sndSt_snoc, HX.out]; exact hst, PP.put (by omega) (by omega) (by omega)⟩
      · have HOVER := Lib.hid (decide_eq_false hov)
        have HOV := Lib.hid hov
        clear hov
        refine wpR_region_J (l := [_, _, _, _, _, _, _, _, _, _, _, _, _]) (QG (fun j v => match j with | 0 => v = .pointer (some ⟨k.bw, 0, none⟩) | 1 => v = .pointer (some ⟨k.bw, 0, none⟩) | 2 => v = .pointer (some ⟨k.bw, 5, none⟩) | 3 => v = .pointer (some ⟨k.bc, 0, none⟩) | 4 => v = .pointer (some ⟨k.bw, 0, none⟩) | 5 => v = .pointer (some ⟨k.bw, 0, none⟩) | 6 => v = .pointer (some ⟨k.bw, 0, none⟩) | 7 => v = s.c.val | 8 => v = .int .i64 op | 9 => v = .int .i64 (s.wordAt op) | 10 => v = .int .u64 (s.peek (s.wordAt op)) | 11 => v = .bool false | 12 => v = .bool false | _ => True) wf) (by kernel_rfl) (by kernel_rfl) (by rfl) (fun us => QG.start us) ⟨?_, ?_, ?_, ?_, ?_, ?_, ?_, ?_, ?_, ?_, ?_, ?_, ?_, trivial⟩ ?_
        · intro dn us w6 A hev hy hG hdn hdep K hK
          have e0 : A.eval (.tmp 2) = .pointer (some ⟨w.heap.size, 0, none⟩) := by rw [hev]; rfl
          have cc0 : w6.cell? ⟨w.heap.size, 0, none⟩ = some (.pointer (some ⟨k.bw, 0, none⟩)) := by rw [hG.below.cell (World.block_lt_of_cell? _ _ e2c)]; exact e2c
          rw [if_pos (by rfl)]
          unfold Oper.wp execOp
          generalize A.eval = ev at e0 ⊢
          go_simp
          exact hK _ _ (hG.first (by first | rfl | (simp; done) | (simp; omega) | (simp; assumption)))
        · intro dn us w6 A hev hy hG hdn hdep K hK
          have d0 : dn 0 = true := allD_mem hdep (by decide)
          have e0 : A.eval (.tmp 62) = .pointer (some ⟨k.bw, 0, none⟩) := by rw [hev]; exact hG.pre 0 d0
          rw [if_pos (by rfl)]
          unfold Oper.wp execOp
          generalize A.eval = ev at e0 ⊢
          go_simp
          exact hK _ _ (hG.first (by first | rfl | (simp; done) | (simp; omega) | (simp; assumption)))
        · intro dn us w6 A hev hy hG hdn hdep K hK
          have d1 : dn 1 = true := allD_mem hdep (by decide)
          have e0 : A.eval (.tmp 63) = .pointer (some ⟨k.bw, 0, none⟩) := by rw [hev]; exact hG.pre 1 d1
          rw [if_pos (by rfl)]
          unfold Oper.wp execOp
          generalize A.eval = ev at e0 ⊢
          go_simp
          exact hK _ _ (hG.first (by first | rfl | (simp; done) | (simp; omega) | (simp; assumption)))
        · intro dn us w6 A hev hy hG hdn hdep K hK
          have d2 : dn 2 = true := allD_mem hdep (by decide)
          have e0 : A.eval (.tmp 64) = .pointer (some ⟨k.bw, 5, none⟩) := by rw [hev]; exact hG.pre 2 d2
          have cc0 : w6.cell? ⟨k.bw, 5, none⟩ = some (.pointer (some ⟨k.bc, 0, none⟩)) := by rw [hG.below.cell (World.block_lt_of_cell? _ _ eb5)]; exact eb5
          rw [if_pos (by rfl)]
          unfold Oper.wp execOp
          generalize A.eval = ev at e0 ⊢
          go_simp
          exact hK _ _ (hG.first (by first | rfl | (simp; done) | (simp; omega) | (simp; assumption)))
        · intro dn us w6 A hev hy hG hdn hdep K hK
          have e0 : A.eval (.tmp 2) = .pointer (some ⟨w.heap.size, 0, none⟩) := by rw [hev]; rfl
          have cc0 : w6.cell? ⟨w.heap.size, 0, none⟩ = some (.pointer (some ⟨k.bw, 0, none⟩)) := by rw [hG.below.cell (World.block_lt_of_cell? _ _ e2c)]; exact e2c
          rw [if_pos (by rfl)]
          unfold Oper.wp execOp
          generalize A.eval = ev at e0 ⊢
          go_simp
          exact hK _ _ (hG.first (by first | rfl | (simp; done) | (simp; omega) | (simp; assumption)))
        · intro dn us w6 A hev hy hG hdn hdep K hK
          have d4 : dn 4 = true := allD_mem hdep (by decide)
          have e0 : A.eval (.tmp 66) = .pointer (some ⟨k.bw, 0, none⟩) := by rw [hev]; exact hG.pre 4 d4
          rw [if_pos (by rfl)]
          unfold Oper.wp execOp
          generalize A.eval = ev at e0 ⊢
          go_simp
          exact hK _ _ (hG.first (by first | rfl | (simp; done) | (simp; omega) | (simp; assumption)))
        · intro dn us w6 A hev hy hG hdn hdep K hK
          have d5 : dn 5 = true := allD_mem hdep (by decide)
          have e0 : A.eval (.tmp 67) = .pointer (some ⟨k.bw, 0, none⟩) := by rw [hev]; exact hG.pre 5 d5
          rw [if_pos (by rfl)]
          unfold Oper.wp execOp
          generalize A.eval = ev at e0 ⊢
          go_simp
          exact hK _ _ (hG.first (by first | rfl | (simp; done) | (simp; omega) | (simp; assumption)))
        · intro dn us w6 A hev hy hG hdn hdep K hK
          have d6 : dn 6 = true := allD_mem hdep (by decide)
          have e0 : A.eval (.tmp 68) = .pointer (some ⟨k.bw, 0, none⟩) := by rw [hev]; exact hG.pre 6 d6
          have cc0 : w6.cell? ⟨k.bw, 0, none⟩ = some (.int .i64 s.c.threads) := by rw [hG.below.cell (World.block_lt_of_cell? _ _ eb0)]; exact eb0
          have cc1 : w6.cell? ⟨k.bw, 1, none⟩ = some (.int .i64 s.c.buckets) := by rw [hG.below.cell (World.block_lt_of_cell? _ _ eb1)]; exact eb1
          have cc2 : w6.cell? ⟨k.bw, 2, none⟩ = some (.int .i64 s.c.inserts) := by rw [hG.below.cell (World.block_lt_of_cell? _ _ eb2)]; exact eb2
          have cc3 : w6.cell? ⟨k.bw, 3, none⟩ = some (.int .i64 s.c.fuel) := by rw [hG.below.cell (World.block_lt_of_cell? _ _ eb3)]; exact eb3
          have cc4 : w6.cell? ⟨k.bw, 4, none⟩ = some (.int .i64 s.c.calls) := by rw [hG.below.cell (World.block_lt_of_cell? _ _ eb4)]; exact eb4
          rw [if_pos (by rfl)]
          unfold Oper.wp execOp
          generalize A.eval = ev at e0 ⊢
          go_simp
          exact hK _ _ (hG.first (by first | rfl | (simp; done) | (simp; omega) | (simp; assumption)))
        · intro dn us w6 A hev hy hG hdn hdep K hK
          have e0 : A.eval (.tmp 10) = .int .i64 op := by rw [hev]; rfl
          rw [if_pos (by rfl)]
          unfold Oper.wp execOp
          generalize A.eval = ev at e0 ⊢
          go_simp
          exact hK _ _ (hG.first (by first | rfl | (simp; done) | (simp; omega) | (simp; assumption)))
        · intro dn us w6 A hev hy hG hdn hdep K hK
          have d7 : dn 7 = true := allD_mem hdep (by decide)
          have d8 : dn 8 = true := allD_mem hdep (by decide)
          have e0 : A.eval (.tmp 69) = s.c.val := by rw [hev]; exact hG.pre 7 d7
          have e1 : A.eval (.tmp 70) = .int .i64 op := by rw [hev]; exact hG.pre 8 d8
          have ef : A.eval (.func 101) = .func (.func 101) #[] #[] := by rw [hev]; rfl
          rw [if_pos (by rfl)]
          unfold Oper.wp execOp
          generalize A.eval = ev at e0 e1 ef ⊢
          go_simp
          refine (word_any s.c op _ HM.out).mono ?_
          rintro e wq ⟨rfl, hb⟩
          exact hK _ _ (hG.called rfl hb)
        · intro dn us w6 A hev hy hG hdn hdep K hK
          have d3 : dn 3 = true := allD_mem hdep (by decide)
          have d9 : dn 9 = true := allD_mem hdep (by decide)
          have e0 : A.eval (.tmp 65) = .pointer (some ⟨k.bc, 0, none⟩) := by rw [hev]; exact hG.pre 3 d3
          have e1 : A.eval (.tmp 71) = .int .i64 (s.wordAt op) := by rw [hev]; exact hG.pre 9 d9
          have ef : A.eval (.func 45) = .func (.func 45) #[] #[] := by rw [hev]; rfl
          rw [if_pos (by rfl)]
          unfold Oper.wp execOp
          generalize A.eval = ev at e0 e1 ef ⊢
          go_simp
          refine (peek_any (s.wordAt op) _ (HH.out.cells.below hG.below)).mono ?_
          rintro e wq ⟨rfl, rfl⟩
          exact hK _ _ (hG.first rfl)
        · intro dn us w6 A hev hy hG hdn hdep K hK
          have d10 : dn 10 = true := allD_mem hdep (by decide)
          have e0 : A.eval (.tmp 72) = .int .u64 (s.peek (s.wordAt op)) := by rw [hev]; exact hG.pre 10 d10
          have ef : A.eval (.func 157) = .func (.func 157) #[] #[] := by rw [hev]; rfl
          rw [if_pos (by rfl)]
          unfold Oper.wp execOp
          generalize A.eval = ev at e0 ef ⊢
          go_simp
          refine (over_any (s.peek (s.wordAt op)) _).mono ?_
          rintro e wq ⟨rfl, rfl⟩
          exact hK _ _ (hG.first (by show Value.bool _ = Value.bool _; rw [HOVER.out]))
        · intro dn us w6 A hev hy hG hdn hdep K hK
          have d11 : dn 11 = true := allD_mem hdep (by decide)
          have e0 : A.eval (.tmp 73) = .bool false := by rw [hev]; exact hG.pre 11 d11
          rw [if_pos (by rfl)]
          unfold Oper.wp execOp
          generalize A.eval = ev at e0 ⊢
          go_simp
          exact hK _ _ (hG.first (by first | rfl | (simp; done) | (simp; omega) | (simp; assumption)))
        intro dn us wh hG hall
        have u12 : us 12 = .bool false := hG.pre 12 (hall 12 (by decide))
        have hbz := hG.below
        refine hK6 _ _ ?_
        simp only [fillA, fillT, Nat.reduceAdd, List.setIfInBounds_toArray, List.set_cons_zero, List.set_cons_succ, u12]
        clear hG hall u12
        have PZ := HS.out.still hbz
        have ekz : wh.cell? ⟨wc.heap.size, 1, none⟩ = some (.int .u64 (s.call op).key) := by rw [hbz.cell (World.block_lt_of_cell? _ _ eky)]; exact eky
        have zwh := hbz.size
        clear e2c e3c e5c e6c e7c e8c eb0 eb1 eb2 eb3 eb4 eb5 eb6 ebl eky HH
        clear HS hbz
        have HS := Lib.hid (PZ)
        have e2c : wh.cell? ⟨w.heap.size, 0, none⟩ = some (.pointer (some ⟨k.bw, 0, none⟩)) := HS.out.p2.cell 0
        have e3c : wh.cell? ⟨w.heap.size + 1, 0, none⟩ = some (.int .i64 bucket) := HS.out.p3.cell 0
        have e5c : wh.cell? ⟨w.heap.size + 1 + 1 + 1 + 1 + 1 + 1, 0, none⟩ = some (.map (some (w.heap.size + 1 + 1 + 1))) := HS.out.m5.cell 0
        have e6c : wh.cell? ⟨w.heap.size + 1 + 1 + 1 + 1 + 1 + 1 + 1, 0, none⟩ = some (.map (some (w.heap.size + 1 + 1 + 1 + 1))) := HS.out.m6.cell 0
        have e7c : wh.cell? ⟨w.heap.size + 1 + 1 + 1 + 1 + 1 + 1 + 1 + 1, 0, none⟩ = some (.map (some (w.heap.size + 1 + 1 + 1 + 1 + 1))) := HS.out.m7.cell 0
        have e8c : wh.cell? ⟨w.heap.size + 1 + 1 + 1 + 1 + 1 + 1 + 1 + 1 + 1, 0, none⟩ = some (.int .u64 _) := HS.out.p8.cell 0
        have HH := Lib.hid (H.out.below HS.out.below)
        obtain ⟨⟨eb0, eb1, eb2, eb3, eb4⟩, eb5, eb6, ebl⟩ := HH.out.wfacts
        have eky : wh.cell? ⟨wc.heap.size, 1, none⟩ = some (.int .u64 (s.call op).key) := ekz
        clear PZ ekz
        by_cases hag : op ∈ x.again
        · have HAG := Lib.hid (decide_eq_true hag)
          have HAG2 := Lib.hid hag
          clear hag
          have hst : s.vw.sndStep bucket x n = some ⟨x.seen ++ [n], addS x.again op, x.opn, (s.call op).key⟩ := by
            unfold Vw.sndStep
            rw [if_neg HC1.out, HOPV.out, HKEY.out]
            exact if_pos (.inl HAG2.out)
          refine wpR_seq_k fun K7 hK7 => ?_
          refine wpR_seq_k fun K8 hK8 => ?_
          refine wpR_region_lit rfl ?_
          go_wp2_with (refine wpl_op (by rfl) (op_has 169 _ _ rfl Tryz.underlying169 Tryz.underlying3 zbool (w.heap.size + 1 + 1 + 1 + 1) rfl _ rfl HS.out.s6 ?_); rw [HAG.out])
          refine ⟨rfl, hK8 _ _ ?_⟩
          refine wpR_cond (t := true) rfl ?_
          refine wpR_seq_k fun K9 hK9 => ?_
          refine wpR_region_lit rfl ?_
          go_wp2_with (refine wpl_op (by rfl) (op_add 169 _ _ _ rfl Tryz.underlying169 Tryz.underlying3 (w.heap.size + 1 + 1 + 1 + 1) rfl _ rfl rfl HS.out.s6 fun wz hMz Oz => ?_))
          refine ⟨rfl, hK9 _ _ ?_⟩
          refine wpR_exit ?_
          have PP := HS.out.agn (by omega) (by omega) (by omega) Oz hMz
          refine ⟨{ L with state := .busy }, PP.loop, ?_⟩
          rw [roundEnd_busy hs hp]
          exact ⟨_, by rw [HT.out, sndSt_snoc, HX.out]; exact hst, PP.put (by omega) (by omega) (by omega)⟩
        · have HAG := Lib.hid (decide_eq_false hag)
          have HAG2 := Lib.hid hag
          clear hag
          refine wpR_seq_k fun K7 hK7 => ?_
          refine wpR_seq_k fun K8 hK8 => ?_
          refine wpR_region_lit rfl ?_
          go_wp2_with (refine wpl_op (by rfl) (op_has 169 _ _ rfl Tryz.underlying169 Tryz.underlying3 zbool (w.heap.size + 1 + 1 + 1 + 1) rfl _ rfl HS.out.s6 ?_); rw [HAG.out])
          refine ⟨rfl, hK8 _ _ ?_⟩
          refine wpR_cond (t := false) rfl (wpR_skip ?_)
          refine hK7 _ _ ?_
          refine wpR_seq_k fun K9 hK9 => ?_
          refine wpR_region_lit rfl ?_
          go_wp2_with (refine wpl_op (by rfl) (op_add 169 _ _ _ rfl Tryz.underlying169 Tryz.underlying3 (w.heap.size + 1 + 1 + 1 + 1) rfl _ rfl rfl HS.out.s6 fun wg hMz Oz => ?_))
          refine ⟨rfl, hK9 _ _ ?_⟩
          have PZ := HS.out.agn (by omega) (by omega) (by omega) Oz hMz
          have ekz := cell_only eky Oz (by show ¬ wc.heap.size = w.heap.size + 1 + 1 + 1 + 1; omega)
          have zwg := Oz.size
          clear e2c e3c e5c e6c e7c e8c eb0 eb1 eb2 eb3 eb4 eb5 eb6 ebl eky HH
          clear HS hMz Oz
          have HS := Lib.hid (PZ)
          have e2c : wg.cell? ⟨w.heap.size, 0, none⟩ = some (.pointer (some ⟨k.bw, 0, none⟩)) := HS.out.p2.cell 0
          have e3c : wg.cell? ⟨w.heap.size + 1, 0, none⟩ = some (.int .i64 bucket) := HS.out.p3.cell 0
          have e5c : wg.cell? ⟨w.heap.size + 1 + 1 + 1 + 1 + 1 + 1, 0, none⟩ = some (.map (some (w.heap.size + 1 + 1 + 1))) := HS.out.m5.cell 0
          have e6c : wg.cell? ⟨w.heap.size + 1 + 1 + 1 + 1 + 1 + 1 + 1, 0, none⟩ = some (.map (some (w.heap.size + 1 + 1 + 1 + 1))) := HS.out.m6.cell 0
          have e7c : wg.cell? ⟨w.heap.size + 1 + 1 + 1 + 1 + 1 + 1 + 1 + 1, 0, none⟩ = some (.map (some (w.heap.size + 1 + 1 + 1 + 1 + 1))) := HS.out.m7.cell 0
          have e8c : wg.cell? ⟨w.heap.size + 1 + 1 + 1 + 1 + 1 + 1 + 1 + 1 + 1, 0, none⟩ = some (.int .u64 _) := HS.out.p8.cell 0
          have HH := Lib.hid (H.out.below HS.out.below)
          obtain ⟨⟨eb0, eb1, eb2, eb3, eb4⟩, eb5, eb6, ebl⟩ := HH.out.wfacts
          have eky : wg.cell? ⟨wc.heap.size, 1, none⟩ = some (.int .u64 (s.call op).key) := ekz
          clear PZ ekz
          refine wpR_seq_k fun K10 hK10 => ?_
          refine wpR_seq_k fun K11 hK11 => ?_
          have hnx : s.vw.nx n = s.peek (s.nextAt n) := rfl
          have hwd : s.vw.wd op = s.peek (s.wordAt op) := rfl
          have HNX := Lib.hid hnx
          have HWD := Lib.hid hwd
          have hinw : s.isIn op = true ↔ s.peek (s.wordAt op) = 1 := by unfold St.isIn; rw [HIO.out]; simp
          have HINW := Lib.hid hinw
          clear hnx hwd hinw
          cases hmk : s.peek (s.nextAt n) % 2 == 1 with
          | true =>
            have HMARK := Lib.hid hmk
            have hst : s.vw.sndStep bucket x n = none := by
              unfold Vw.sndStep
              rw [if_neg HC1.out, HOPV.out, HKEY.out, if_neg (by intro q; rcases q with q | q; exact HAG2.out q; exact Int.not_lt.2 HOV.out q)]
              exact if_pos (.inl (by rw [HNX.out]; exact beq_iff_eq.1 HMARK.out))
            clear hmk
            have hnone : s.vw.sndSt bucket ⟨[], [], [], 0⟩ (s.chain bucket) = none := by
              have h1 : s.vw.sndSt bucket ⟨[], [], [], 0⟩ ((s.chain bucket).take (j + 1)) = none := by rw [HT.out, sndSt_snoc, HX.out]; exact hst
              have h2 := sndSt_none s.vw bucket ((s.chain bucket).take (j + 1)) ((s.chain bucket).drop (j + 1)) _ h1
              rwa [List.take_append_drop] at h2
            refine wpR_region_J (l := [_, _, _, _, _, _, _, _, _, _, _, _, _, _, _, _, _, _, _, _, _, _, _]) (QG (fun j v => match j with | 0 => v = .pointer (some ⟨k.bw, 0, none⟩) | 1 => v = .pointer (some ⟨k.bw, 0, none⟩) | 2 => v = .pointer (some ⟨k.bw, 5, none⟩) | 3 => v = .pointer (some ⟨k.bc, 0, none⟩) | 4 => v = .pointer (some ⟨k.bw, 0, none⟩) | 5 => v = .pointer (some ⟨k.bw, 0, none⟩) | 6 => v = .pointer (some ⟨k.bw, 0, none⟩) | 7 => v = s.c.val | 8 => v = .int .i64 n | 9 => v = .int .i64 (s.nextAt n) | 10 => v = .int .u64 (s.peek (s.nextAt n)) | 11 => v = .bool true | 12 => v = .bool true | 16 => v = undef | 22 => v = .bool true | _ => True) wg) (by kernel_rfl) (by kernel_rfl) (by rfl) (fun us => QG.start us) ⟨?_, ?_, ?_, ?_, ?_, ?_, ?_, ?_, ?_, ?_, ?_, ?_, ?_, ?_, ?_, ?_, ?_, ?_, ?_, ?_, ?_, ?_, ?_, trivial⟩ ?_
            · intro dn us w6 A hev hy hG hdn hdep K hK
              have e0 : A.eval (.tmp 2) = .pointer (some ⟨w.heap.size, 0, none⟩) := by rw [hev]; rfl
              have cc0 : w6.cell? ⟨w.heap.size, 0, none⟩ = some (.pointer (some ⟨k.bw, 0, none⟩)) := by rw [hG.below.cell (World.block_lt_of_cell? _ _ e2c)]; exact e2c
              rw [if_pos (by rfl)]
              unfold Oper.wp execOp
              generalize A.eval = ev at e0 ⊢
              go_simp
              exact hK _ _ (hG.first (by first | rfl | (simp; done) | (simp; omega) | (simp; assumption)))
            · intro dn us w6 A hev hy hG hdn hdep K hK
              have d0 : dn 0 = true := allD_mem hdep (by decide)
              have e0 : A.eval (.tmp 84) = .pointer (some ⟨k.bw, 0, none⟩) := by rw [hev]; exact hG.pre 0 d0
              rw [if_pos (by rfl)]
              unfold Oper.wp execOp
              generalize A.eval = ev at e0 ⊢
              go_simp
              exact hK _ _ (hG.first (by first | rfl | (simp; done) | (simp; omega) | (simp; assumption)))
            · intro dn us w6 A hev hy hG hdn hdep K hK
              have d1 : dn 1 = true := allD_mem hdep (by decide)
              have e0 : A.eval (.tmp 85) = .pointer (some ⟨k.bw, 0, none⟩) := by rw [hev]; exact hG.pre 1 d1
              rw [if_pos (by rfl)]
              unfold Oper.wp execOp
              generalize A.eval = ev at e0 ⊢
              go_simp
              exact hK _ _ (hG.first (by first | rfl | (simp; done) | (simp; omega) | (simp; assumption)))
            · intro dn us w6 A hev hy hG hdn hdep K hK
              have d2 : dn 2 = true := allD_mem hdep (by decide)
              have e0 : A.eval (.tmp 86) = .pointer (some ⟨k.bw, 5, none⟩) := by rw [hev]; exact hG.pre 2 d2
              have cc0 : w6.cell? ⟨k.bw, 5, none⟩ = some (.pointer (some ⟨k.bc, 0, none⟩)) := by rw [hG.below.cell (World.block_lt_of_cell? _ _ eb5)]; exact eb5
              rw [if_pos (by rfl)]
              unfold Oper.wp execOp
              generalize A.eval = ev at e0 ⊢
              go_simp
              exact hK _ _ (hG.first (by first | rfl | (simp; done) | (simp; omega) | (simp; assumption)))
            · intro dn us w6 A hev hy hG hdn hdep K hK
              have e0 : A.eval (.tmp 2) = .pointer (some ⟨w.heap.size, 0, none⟩) := by rw [hev]; rfl
              have cc0 : w6.cell? ⟨w.heap.size, 0, none⟩ = some (.pointer (some ⟨k.bw, 0, none⟩)) := by rw [hG.below.cell (World.block_lt_of_cell? _ _ e2c)]; exact e2c
              rw [if_pos (by rfl)]
              unfold Oper.wp execOp
              generalize A.eval = ev at e0 ⊢
              go_simp
              exact hK _ _ (hG.first (by first | rfl | (simp; done) | (simp; omega) | (simp; assumption)))
            · intro dn us w6 A hev hy hG hdn hdep K hK
              have d4 : dn 4 = true := allD_mem hdep (by decide)
              have e0 : A.eval (.tmp 88) = .pointer (some ⟨k.bw, 0, none⟩) := by rw [hev]; exact hG.pre 4 d4
              rw [if_pos (by rfl)]
              unfold Oper.wp execOp
              generalize A.eval = ev at e0 ⊢
              go_simp
              exact hK _ _ (hG.first (by first | rfl | (simp; done) | (simp; omega) | (simp; assumption)))
            · intro dn us w6 A hev hy hG hdn hdep K hK
              have d5 : dn 5 = true := allD_mem hdep (by decide)
              have e0 : A.eval (.tmp 89) = .pointer (some ⟨k.bw, 0, none⟩) := by rw [hev]; exact hG.pre 5 d5
              rw [if_pos (by rfl)]
              unfold Oper.wp execOp
              generalize A.eval = ev at e0 ⊢
              go_simp
              exact hK _ _ (hG.first (by first | rfl | (simp; done) | (simp; omega) | (simp; assumption)))
            · intro dn us w6 A hev hy hG hdn hdep K hK
              have d6 : dn 6 = true := allD_mem hdep (by decide)
              have e0 : A.eval (.tmp 90) = .pointer (some ⟨k.bw, 0, none⟩) := by rw [hev]; exact hG.pre 6 d6
              have cc0 : w6.cell? ⟨k.bw, 0, none⟩ = some (.int .i64 s.c.threads) := by rw [hG.below.cell (World.block_lt_of_cell? _ _ eb0)]; exact eb0
              have cc1 : w6.cell? ⟨k.bw, 1, none⟩ = some (.int .i64 s.c.buckets) := by rw [hG.below.cell (World.block_lt_of_cell? _ _ eb1)]; exact eb1
              have cc2 : w6.cell? ⟨k.bw, 2, none⟩ = some (.int .i64 s.c.inserts) := by rw [hG.below.cell (World.block_lt_of_cell? _ _ eb2)]; exact eb2
              have cc3 : w6.cell? ⟨k.bw, 3, none⟩ = some (.int .i64 s.c.fuel) := by rw [hG.below.cell (World.block_lt_of_cell? _ _ eb3)]; exact eb3
              have cc4 : w6.cell? ⟨k.bw, 4, none⟩ = some (.int .i64 s.c.calls) := by rw [hG.below.cell (World.block_lt_of_cell? _ _ eb4)]; exact eb4
              rw [if_pos (by rfl)]
              unfold Oper.wp execOp
              generalize A.eval = ev at e0 ⊢
              go_simp
              exact hK _ _ (hG.first (by first | rfl | (simp; done) | (simp; omega) | (simp; assumption)))
            · intro dn us w6 A hev hy hG hdn hdep K hK
              have e0 : A.eval (.tmp 9) = .int .i64 n := by rw [hev]; rfl
              rw [if_pos (by rfl)]
              unfold Oper.wp execOp
              generalize A.eval = ev at e0 ⊢
              go_simp
              exact hK _ _ (hG.first (by first | rfl | (simp; done) | (simp; omega) | (simp; assumption)))
            · intro dn us w6 A hev hy hG hdn hdep K hK
              have d7 : dn 7 = true := allD_mem hdep (by decide)
              have d8 : dn 8 = true := allD_mem hdep (by decide)
              have e0 : A.eval (.tmp 91) = s.c.val := by rw [hev]; exact hG.pre 7 d7
              have e1 : A.eval (.tmp 92) = .int .i64 n := by rw [hev]; exact hG.pre 8 d8
              have ef : A.eval (.func 103) = .func (.func 103) #[] #[] := by rw [hev]; rfl
              rw [if_pos (by rfl)]
              unfold Oper.wp execOp
              generalize A.eval = ev at e0 e1 ef ⊢
              go_simp
              refine (next_any s.c n _).mono ?_
              rintro e wq ⟨rfl, hb⟩
              exact hK _ _ (hG.called rfl hb)
            · intro dn us w6 A hev hy hG hdn hdep K hK
              have d3 : dn 3 = true := allD_mem hdep (by decide)
              have d9 : dn 9 = true := allD_mem hdep (by decide)
              have e0 : A.eval (.tmp 87) = .pointer (some ⟨k.bc, 0, none⟩) := by rw [hev]; exact hG.pre 3 d3
              have e1 : A.eval (.tmp 93) = .int .i64 (s.nextAt n) := by rw [hev]; exact hG.pre 9 d9
              have ef : A.eval (.func 45) = .func (.func 45) #[] #[] := by rw [hev]; rfl
              rw [if_pos (by rfl)]
              unfold Oper.wp execOp
              generalize A.eval = ev at e0 e1 ef ⊢
              go_simp
              refine (peek_any (s.nextAt n) _ (HH.out.cells.below hG.below)).mono ?_
              rintro e wq ⟨rfl, rfl⟩
              exact hK _ _ (hG.first rfl)
            · intro dn us w6 A hev hy hG hdn hdep K hK
              have d10 : dn 10 = true := allD_mem hdep (by decide)
              have e0 : A.eval (.tmp 94) = .int .u64 (s.peek (s.nextAt n)) := by rw [hev]; exact hG.pre 10 d10
              have ef : A.eval (.func 153) = .func (.func 153) #[] #[] := by rw [hev]; rfl
              rw [if_pos (by rfl)]
              unfold Oper.wp execOp
              generalize A.eval = ev at e0 ef ⊢
              go_simp
              refine (marked_any (s.peek (s.nextAt n)) _ HPK.out.1 HPK.out.2).mono ?_
              rintro e wq ⟨rfl, rfl⟩
              exact hK _ _ (hG.first (by show Value.bool _ = Value.bool _; rw [HMARK.out]))
            · intro dn us w6 A hev hy hG hdn hdep K hK
              have d11 : dn 11 = true := allD_mem hdep (by decide)
              have e0 : A.eval (.tmp 95) = .bool true := by rw [hev]; exact hG.pre 11 d11
              rw [if_pos (by rfl)]
              unfold Oper.wp execOp
              generalize A.eval = ev at e0 ⊢
              go_simp
              exact hK _ _ (hG.first (by first | rfl | (simp; done) | (simp; omega) | (simp; assumption)))
            · intro dn us w6 A hev hy hG hdn hdep K hK
              have d12 : dn 12 = true := allD_mem hdep (by decide)
              have cc0 : w6.cell? ⟨w.heap.size, 0, none⟩ = some (.pointer (some ⟨k.bw, 0, none⟩)) := by rw [hG.below.cell (World.block_lt_of_cell? _ _ e2c)]; exact e2c
              have hg : us 12 = .bool true := hG.pre 12 d12
              rw [if_neg (by rw [hy]; show ¬ ((match us 12 with | .bool b => some b | _ => none) == some false) = true; rw [hg]; decide)]
              exact hK _ _ (hG.first trivial)
            · intro dn us w6 A hev hy hG hdn hdep K hK
              have d12 : dn 12 = true := allD_mem hdep (by decide)
              have hg : us 12 = .bool true := hG.pre 12 d12
              rw [if_neg (by rw [hy]; show ¬ ((match us 12 with | .bool b => some b | _ => none) == some false) = true; rw [hg]; decide)]
              exact hK _ _ (hG.first trivial)
            · intro dn us w6 A hev hy hG hdn hdep K hK
              have d12 : dn 12 = true := allD_mem hdep (by decide)
              have ef : A.eval (.func 112) = .func (.func 112) #[] #[] := by rw [hev]; rfl
              have hg : us 12 = .bool true := hG.pre 12 d12
              rw [if_neg (by rw [hy]; show ¬ ((match us 12 with | .bool b => some b | _ => none) == some false) = true; rw [hg]; decide)]
              exact hK _ _ (hG.first trivial)
            · intro dn us w6 A hev hy hG hdn hdep K hK
              have d12 : dn 12 = true := allD_mem hdep (by decide)
              have hg : us 12 = .bool true := hG.pre 12 d12
              rw [if_neg (by rw [hy]; show ¬ ((match us 12 with | .bool b => some b | _ => none) == some false) = true; rw [hg]; decide)]
              exact hK _ _ (hG.first rfl)
            · intro dn us w6 A hev hy hG hdn hdep K hK
              have d16 : dn 16 = true := allD_mem hdep (by decide)
              have cc0 : w6.cell? ⟨w.heap.size + 1 + 1 + 1 + 1 + 1 + 1 + 1 + 1, 0, none⟩ = some (.map (some (w.heap.size + 1 + 1 + 1 + 1 + 1))) := by rw [hG.below.cell (World.block_lt_of_cell? _ _ e7c)]; exact e7c
              have hg : us 16 = undef := hG.pre 16 d16
              rw [if_neg (by rw [hy]; show ¬ ((match us 16 with | .bool b => some b | _ => none) == some true) = true; rw [hg]; decide)]
              exact hK _ _ (hG.first trivial)
            · intro dn us w6 A hev hy hG hdn hdep K hK
              have d16 : dn 16 = true := allD_mem hdep (by decide)
              have hg : us 16 = undef := hG.pre 16 d16
              rw [if_neg (by rw [hy]; show ¬ ((match us 16 with | .bool b => some b | _ => none) == some true) = true; rw [hg]; decide)]
              exact hK _ _ (hG.first trivial)
            · intro dn us w6 A hev hy hG hdn hdep K hK
              have d16 : dn 16 = true := allD_mem hdep (by decide)
              have cc0 : w6.cell? ⟨wc.heap.size, 1, none⟩ = some (.int .u64 (s.call op).key) := by rw [hG.below.cell (World.block_lt_of_cell? _ _ eky)]; exact eky
              have hg : us 16 = undef := hG.pre 16 d16
              rw [if_neg (by rw [hy]; show ¬ ((match us 16 with | .bool b => some b | _ => none) == some true) = true; rw [hg]; decide)]
              exact hK _ _ (hG.first trivial)
            · intro dn us w6 A hev hy hG hdn hdep K hK
              have d16 : dn 16 = true := allD_mem hdep (by decide)
              have hg : us 16 = undef := hG.pre 16 d16
              rw [if_neg (by rw [hy]; show ¬ ((match us 16 with | .bool b => some b | _ => none) == some true) = true; rw [hg]; decide)]
              exact hK _ _ (hG.first trivial)
            · intro dn us w6 A hev hy hG hdn hdep K hK
              have d12 : dn 12 = true := allD_mem hdep (by decide)
              have e0 : A.eval (.const (.bool false)) = .bool false := by rw [hev]; rfl
              have hg : us 12 = .bool true := hG.pre 12 d12
              rw [if_neg (by rw [hy]; show ¬ ((match us 12 with | .bool b => some b | _ => none) == some false) = true; rw [hg]; decide)]
              exact hK _ _ (hG.first trivial)
            · intro dn us w6 A hev hy hG hdn hdep K hK
              have d12 : dn 12 = true := allD_mem hdep (by decide)
              have e0 : A.eval (.tmp 96) = .bool true := by rw [hev]; exact hG.pre 12 d12
              have e1 : A.eval (.const (.bool true)) = .bool true := by rw [hev]; rfl
              rw [if_pos (by rfl)]
              unfold Oper.wp execOp
              generalize A.eval = ev at e0 e1 ⊢
              go_simp
              exact hK _ _ (hG.first (by first | rfl | (simp; done) | (simp; omega) | (simp; assumption)))
            intro dn us wz hG hall
            have u22 : us 22 = .bool true := hG.pre 22 (hall 22 (by decide))
            have hbz := hG.below
            refine hK11 _ _ ?_
            simp only [fillA, fillT, Nat.reduceAdd, List.setIfInBounds_toArray, List.set_cons_zero, List.set_cons_succ, u22]
            clear hG hall u22
            have PZ := Lib.hid (HS.out.still hbz)
            clear e2c e3c e5c e6c e7c e8c eb0 eb1 eb2 eb3 eb4 eb5 eb6 ebl eky HH
            refine wpR_cond (t := true) rfl ?_
            refine wpR_seq_k fun K7 hK7 => ?_
            refine wpR_region_lit rfl ?_
            go_wp2_with (refine wpl_st rfl 4 _ _ rfl #[.bool false] rfl _ rfl (PZ.out).p4 (by kernel_rfl) rfl rfl rfl ?_; intro wy A4 O4; have TTT := True.intro)
            refine ⟨rfl, hK7 _ _ ?_⟩
            refine wpR_ret ?_
            obtain ⟨q1, q2⟩ := (PZ.out).stop (by omega) (by omega) (by omega) O4 A4
            exact ⟨{ L with state := .busy }, q1, q2, hnone⟩
          | false =>
            have HMARK := Lib.hid hmk
            clear hmk
            cases hii : s.isIn op with
            | false =>
              have HIN := Lib.hid hii
              clear hii
              have hst : s.vw.sndStep bucket x n = some ⟨x.seen ++ [n], addS x.again op, addS x.opn (s.call op).key, (s.call op).key⟩ := by
                unfold Vw.sndStep
                rw [if_neg HC1.out, HOPV.out, HKEY.out, if_neg (by intro q; rcases q with q | q; exact HAG2.out q; exact Int.not_lt.2 HOV.out q)]
                exact if_neg (by
                  intro q
                  rcases q with q | ⟨q1, q2⟩
                  · rw [HNX.out] at q
                    have := HMARK.out
                    rw [q] at this
                    cases this
                  · have := HINW.out.2 (by rw [← HWD.out]; exact q1); rw [HIN.out] at this; cases this)
              refine wpR_region_J (l := [_, _, _, _, _, _, _, _, _, _, _, _, _, _, _, _, _, _, _, _, _, _, _]) (QG (fun j v => match j with | 0 => v = .pointer (some ⟨k.bw, 0, none⟩) | 1 => v = .pointer (some ⟨k.bw, 0, none⟩) | 2 => v = .pointer (some ⟨k.bw, 5, none⟩) | 3 => v = .pointer (some ⟨k.bc, 0, none⟩) | 4 => v = .pointer (some ⟨k.bw, 0, none⟩) | 5 => v = .pointer (some ⟨k.bw, 0, none⟩) | 6 => v = .pointer (some ⟨k.bw, 0, none⟩) | 7 => v = s.c.val | 8 => v = .int .i64 n | 9 => v = .int .i64 (s.nextAt n) | 10 => v = .int .u64 (s.peek (s.nextAt n)) | 11 => v = .bool false | 12 => v = .bool false | 13 => v = .pointer (some ⟨k.bw, 0, none⟩) | 14 => v = .int .i64 op | 15 => v = .bool false | 16 => v = .bool false | 21 => v = .bool false | 22 => v = .bool false | _ => True) wg) (by kernel_rfl) (by kernel_rfl) (by rfl) (fun us => QG.start us) ⟨?_, ?_, ?_, ?_, ?_, ?_, ?_, ?_, ?_, ?_, ?_, ?_, ?_, ?_, ?_, ?_, ?_, ?_, ?_, ?_, ?_, ?_, ?_, trivial⟩ ?_
              · intro dn us w6 A hev hy hG hdn hdep K hK
                have e0 : A.eval (.tmp 2) = .pointer (some ⟨w.heap.size, 0, none⟩) := by rw [hev]; rfl
                have cc0 : w6.cell? ⟨w.heap.size, 0, none⟩ = some (.pointer (some ⟨k.bw, 0, none⟩)) := by rw [hG.below.cell (World.block_lt_of_cell? _ _ e2c)]; exact e2c
                rw [if_pos (by rfl)]
                unfold Oper.wp execOp
                generalize A.eval = ev at e0 ⊢
                go_simp
                exact hK _ _ (hG.first (by first | rfl | (simp; done) | (simp; omega) | (simp; assumption)))
              · intro dn us w6 A hev hy hG hdn hdep K hK
                have d0 : dn 0 = true := allD_mem hdep (by decide)
                have e0 : A.eval (.tmp 84) = .pointer (some ⟨k.bw, 0, none⟩) := by rw [hev]; exact hG.pre 0 d0
                rw [if_pos (by rfl)]
                unfold Oper.wp execOp
                generalize A.eval = ev at e0 ⊢
                go_simp
                exact hK _ _ (hG.first (by first | rfl | (simp; done) | (simp; omega) | (simp; assumption)))
              · intro dn us w6 A hev hy hG hdn hdep K hK
                have d1 : dn 1 = true := allD_mem hdep (by decide)
                have e0 : A.eval (.tmp 85) = .pointer (some ⟨k.bw, 0, none⟩) := by rw [hev]; exact hG.pre 1 d1
                rw [if_pos (by rfl)]
                unfold Oper.wp execOp
                generalize A.eval = ev at e0 ⊢
                go_simp
                exact hK _ _ (hG.first (by first | rfl | (simp; done) | (simp; omega) | (simp; assumption)))
              · intro dn us w6 A hev hy hG hdn hdep K hK
                have d2 : dn 2 = true := allD_mem hdep (by decide)
                have e0 : A.eval (.tmp 86) = .pointer (some ⟨k.bw, 5, none⟩) := by rw [hev]; exact hG.pre 2 d2
                have cc0 : w6.cell? ⟨k.bw, 5, none⟩ = some (.pointer (some ⟨k.bc, 0, none⟩)) := by rw [hG.below.cell (World.block_lt_of_cell? _ _ eb5)]; exact eb5
                rw [if_pos (by rfl)]
                unfold Oper.wp execOp
                generalize A.eval = ev at e0 ⊢
                go_simp
                exact hK _ _ (hG.first (by first | rfl | (simp; done) | (simp; omega) | (simp; assumption)))
              · intro dn us w6 A hev hy hG hdn hdep K hK
                have e0 : A.eval (.tmp 2) = .pointer (some ⟨w.heap.size, 0, none⟩) := by rw [hev]; rfl
                have cc0 : w6.cell? ⟨w.heap.size, 0, none⟩ = some (.pointer (some ⟨k.bw, 0, none⟩)) := by rw [hG.below.cell (World.block_lt_of_cell? _ _ e2c)]; exact e2c
                rw [if_pos (by rfl)]
                unfold Oper.wp execOp
                generalize A.eval = ev at e0 ⊢
                go_simp
                exact hK _ _ (hG.first (by first | rfl | (simp; done) | (simp; omega) | (simp; assumption)))
              · intro dn us w6 A hev hy hG hdn hdep K hK
                have d4 : dn 4 = true := allD_mem hdep (by decide)
                have e0 : A.eval (.tmp 88) = .pointer (some ⟨k.bw, 0, none⟩) := by rw [hev]; exact hG.pre 4 d4
                rw [if_pos (by rfl)]
                unfold Oper.wp execOp
                generalize A.eval = ev at e0 ⊢
                go_simp
                exact hK _ _ (hG.first (by first | rfl | (simp; done) | (simp; omega) | (simp; assumption)))
              · intro dn us w6 A hev hy hG hdn hdep K hK
                have d5 : dn 5 = true := allD_mem hdep (by decide)
                have e0 : A.eval (.tmp 89) = .pointer (some ⟨k.bw, 0, none⟩) := by rw [hev]; exact hG.pre 5 d5
                rw [if_pos (by rfl)]
                unfold Oper.wp execOp
                generalize A.eval = ev at e0 ⊢
                go_simp
                exact hK _ _ (hG.first (by first | rfl | (simp; done) | (simp; omega) | (simp; assumption)))
              · intro dn us w6 A hev hy hG hdn hdep K hK
                have d6 : dn 6 = true := allD_mem hdep (by decide)
                have e0 : A.eval (.tmp 90) = .pointer (some ⟨k.bw, 0, none⟩) := by rw [hev]; exact hG.pre 6 d6
                have cc0 : w6.cell? ⟨k.bw, 0, none⟩ = some (.int .i64 s.c.threads) := by rw [hG.below.cell (World.block_lt_of_cell? _ _ eb0)]; exact eb0
                have cc1 : w6.cell? ⟨k.bw, 1, none⟩ = some (.int .i64 s.c.buckets) := by rw [hG.below.cell (World.block_lt_of_cell? _ _ eb1)]; exact eb1
                have cc2 : w6.cell? ⟨k.bw, 2, none⟩ = some (.int .i64 s.c.inserts) := by rw [hG.below.cell (World.block_lt_of_cell? _ _ eb2)]; exact eb2
                have cc3 : w6.cell? ⟨k.bw, 3, none⟩ = some (.int .i64 s.c.fuel) := by rw [hG.below.cell (World.block_lt_of_cell? _ _ eb3)]; exact eb3
                have cc4 : w6.cell? ⟨k.bw, 4, none⟩ = some (.int .i64 s.c.calls) := by rw [hG.below.cell (World.block_lt_of_cell? _ _ eb4)]; exact eb4
                rw [if_pos (by rfl)]
                unfold Oper.wp execOp
                generalize A.eval = ev at e0 ⊢
                go_simp
                exact hK _ _ (hG.first (by first | rfl | (simp; done) | (simp; omega) | (simp; assumption)))
              · intro dn us w6 A hev hy hG hdn hdep K hK
                have e0 : A.eval (.tmp 9) = .int .i64 n := by rw [hev]; rfl
                rw [if_pos (by rfl)]
                unfold Oper.wp execOp
                generalize A.eval = ev at e0 ⊢
                go_simp
                exact hK _ _ (hG.first (by first | rfl | (simp; done) | (simp; omega) | (simp; assumption)))
              · intro dn us w6 A hev hy hG hdn hdep K hK
                have d7 : dn 7 = true := allD_mem hdep (by decide)
                have d8 : dn 8 = true := allD_mem hdep (by decide)
                have e0 : A.eval (.tmp 91) = s.c.val := by rw [hev]; exact hG.pre 7 d7
                have e1 : A.eval (.tmp 92) = .int .i64 n := by rw [hev]; exact hG.pre 8 d8
                have ef : A.eval (.func 103) = .func (.func 103) #[] #[] := by rw [hev]; rfl
                rw [if_pos (by rfl)]
                unfold Oper.wp execOp
                generalize A.eval = ev at e0 e1 ef ⊢
                go_simp
                refine (next_any s.c n _).mono ?_
                rintro e wq ⟨rfl, hb⟩
                exact hK _ _ (hG.called rfl hb)
              · intro dn us w6 A hev hy hG hdn hdep K hK
                have d3 : dn 3 = true := allD_mem hdep (by decide)
                have d9 : dn 9 = true := allD_mem hdep (by decide)
                have e0 : A.eval (.tmp 87) = .pointer (some ⟨k.bc, 0, none⟩) := by rw [hev]; exact hG.pre 3 d3
                have e1 : A.eval (.tmp 93) = .int .i64 (s.nextAt n) := by rw [hev]; exact hG.pre 9 d9
                have ef : A.eval (.func 45) = .func (.func 45) #[] #[] := by rw [hev]; rfl
                rw [if_pos (by rfl)]
                unfold Oper.wp execOp
                generalize A.eval = ev at e0 e1 ef ⊢
                go_simp
                refine (peek_any (s.nextAt n) _ (HH.out.cells.below hG.below)).mono ?_
                rintro e wq ⟨rfl, rfl⟩
                exact hK _ _ (hG.first rfl)
              · intro dn us w6 A hev hy hG hdn hdep K hK
                have d10 : dn 10 = true := allD_mem hdep (by decide)
                have e0 : A.eval (.tmp 94) = .int .u64 (s.peek (s.nextAt n)) := by rw [hev]; exact hG.pre 10 d10
                have ef : A.eval (.func 153) = .func (.func 153) #[] #[] := by rw [hev]; rfl
                rw [if_pos (by rfl)]
                unfold Oper.wp execOp
                generalize A.eval = ev at e0 ef ⊢
                go_simp
                refine (marked_any (s.peek (s.nextAt n)) _ HPK.out.1 HPK.out.2).mono ?_
                rintro e wq ⟨rfl, rfl⟩
                exact hK _ _ (hG.first (by show Value.bool _ = Value.bool _; rw [HMARK.out]))
              · intro dn us w6 A hev hy hG hdn hdep K hK
                have d11 : dn 11 = true := allD_mem hdep (by decide)
                have e0 : A.eval (.tmp 95) = .bool false := by rw [hev]; exact hG.pre 11 d11
                rw [if_pos (by rfl)]
                unfold Oper.wp execOp
                generalize A.eval = ev at e0 ⊢
                go_simp
                exact hK _ _ (hG.first (by first | rfl | (simp; done) | (simp; omega) | (simp; assumption)))
              · intro dn us w6 A hev hy hG hdn hdep K hK
                have d12 : dn 12 = true := allD_mem hdep (by decide)
                have e0 : A.eval (.tmp 2) = .pointer (some ⟨w.heap.size, 0, none⟩) := by rw [hev]; rfl
                have cc0 : w6.cell? ⟨w.heap.size, 0, none⟩ = some (.pointer (some ⟨k.bw, 0, none⟩)) := by rw [hG.below.cell (World.block_lt_of_cell? _ _ e2c)]; exact e2c
                have hg : us 12 = .bool false := hG.pre 12 d12
                rw [if_pos (by rw [hy]; show ((match us 12 with | .bool b => some b | _ => none) == some false) = true; rw [hg]; rfl)]
                unfold Oper.wp execOp
                generalize A.eval = ev at e0 ⊢
                go_simp
                exact hK _ _ (hG.first (by first | rfl | (simp; done) | (simp; omega) | (simp; assumption)))
              · intro dn us w6 A hev hy hG hdn hdep K hK
                have d12 : dn 12 = true := allD_mem hdep (by decide)
                have e0 : A.eval (.tmp 10) = .int .i64 op := by rw [hev]; rfl
                have hg : us 12 = .bool false := hG.pre 12 d12
                rw [if_pos (by rw [hy]; show ((match us 12 with | .bool b => some b | _ => none) == some false) = true; rw [hg]; rfl)]
                unfold Oper.wp execOp
                generalize A.eval = ev at e0 ⊢
                go_simp
                exact hK _ _ (hG.first (by first | rfl | (simp; done) | (simp; omega) | (simp; assumption)))
              · intro dn us w6 A hev hy hG hdn hdep K hK
                have d12 : dn 12 = true := allD_mem hdep (by decide)
                have d13 : dn 13 = true := allD_mem hdep (by decide)
                have d14 : dn 14 = true := allD_mem hdep (by decide)
                have e0 : A.eval (.tmp 97) = .pointer (some ⟨k.bw, 0, none⟩) := by rw [hev]; exact hG.pre 13 d13
                have e1 : A.eval (.tmp 98) = .int .i64 op := by rw [hev]; exact hG.pre 14 d14
                have ef : A.eval (.func 112) = .func (.func 112) #[] #[] := by rw [hev]; rfl
                have hg : us 12 = .bool false := hG.pre 12 d12
                rw [if_pos (by rw [hy]; show ((match us 12 with | .bool b => some b | _ => none) == some false) = true; rw [hg]; rfl)]
                unfold Oper.wp execOp
                generalize A.eval = ev at e0 e1 ef ⊢
                go_simp
                refine (lin_any op _ (HH.out.below hG.below)).mono ?_
                rintro e wq ⟨rfl, hb⟩
                exact hK _ _ (hG.called (by show Value.bool _ = Value.bool _; rw [HIN.out]) hb)
              · intro dn us w6 A hev hy hG hdn hdep K hK
                have d12 : dn 12 = true := allD_mem hdep (by decide)
                have d15 : dn 15 = true := allD_mem hdep (by decide)
                have e0 : A.eval (.tmp 99) = .bool false := by rw [hev]; exact hG.pre 15 d15
                have hg : us 12 = .bool false := hG.pre 12 d12
                rw [if_pos (by rw [hy]; show ((match us 12 with | .bool b => some b | _ => none) == some false) = true; rw [hg]; rfl)]
                unfold Oper.wp execOp
                generalize A.eval = ev at e0 ⊢
                go_simp
                exact hK _ _ (hG.first (by first | rfl | (simp; done) | (simp; omega) | (simp; assumption)))
              · intro dn us w6 A hev hy hG hdn hdep K hK
                have d16 : dn 16 = true := allD_mem hdep (by decide)
                have cc0 : w6.cell? ⟨w.heap.size + 1 + 1 + 1 + 1 + 1 + 1 + 1 + 1, 0, none⟩ = some (.map (some (w.heap.size + 1 + 1 + 1 + 1 + 1))) := by rw [hG.below.cell (World.block_lt_of_cell? _ _ e7c)]; exact e7c
                have hg : us 16 = .bool false := hG.pre 16 d16
                rw [if_neg (by rw [hy]; show ¬ ((match us 16 with | .bool b => some b | _ => none) == some true) = true; rw [hg]; decide)]
                exact hK _ _ (hG.first trivial)
              · intro dn us w6 A hev hy hG hdn hdep K hK
                have d16 : dn 16 = true := allD_mem hdep (by decide)
                have hg : us 16 = .bool false := hG.pre 16 d16
                rw [if_neg (by rw [hy]; show ¬ ((match us 16 with | .bool b => some b | _ => none) == some true) = true; rw [hg]; decide)]
                exact hK _ _ (hG.first trivial)
              · intro dn us w6 A hev hy hG hdn hdep K hK
                have d16 : dn 16 = true := allD_mem hdep (by decide)
                have cc0 : w6.cell? ⟨wc.heap.size, 1, none⟩ = some (.int .u64 (s.call op).key) := by rw [hG.below.cell (World.block_lt_of_cell? _ _ eky)]; exact eky
                have hg : us 16 = .bool false := hG.pre 16 d16
                rw [if_neg (by rw [hy]; show ¬ ((match us 16 with | .bool b => some b | _ => none) == some true) = true; rw [hg]; decide)]
                exact hK _ _ (hG.first trivial)
              · intro dn us w6 A hev hy hG hdn hdep K hK
                have d16 : dn 16 = true := allD_mem hdep (by decide)
                have hg : us 16 = .bool false := hG.pre 16 d16
                rw [if_neg (by rw [hy]; show ¬ ((match us 16 with | .bool b => some b | _ => none) == some true) = true; rw [hg]; decide)]
                exact hK _ _ (hG.first trivial)
              · intro dn us w6 A hev hy hG hdn hdep K hK
                have d12 : dn 12 = true := allD_mem hdep (by decide)
                have d16 : dn 16 = true := allD_mem hdep (by decide)
                have e0 : A.eval (.tmp 100) = .bool false := by rw [hev]; exact hG.pre 16 d16
                have e1 : A.eval (.const (.bool false)) = .bool false := by rw [hev]; rfl
                have hg : us 12 = .bool false := hG.pre 12 d12
                rw [if_pos (by rw [hy]; show ((match us 12 with | .bool b => some b | _ => none) == some false) = true; rw [hg]; rfl)]
                unfold Oper.wp execOp
                generalize A.eval = ev at e0 e1 ⊢
                go_simp
                exact hK _ _ (hG.first (by first | rfl | (simp; done) | (simp; omega) | (simp; assumption)))
              · intro dn us w6 A hev hy hG hdn hdep K hK
                have d12 : dn 12 = true := allD_mem hdep (by decide)
                have d21 : dn 21 = true := allD_mem hdep (by decide)
                have e0 : A.eval (.tmp 96) = .bool false := by rw [hev]; exact hG.pre 12 d12
                have e1 : A.eval (.const (.bool true)) = .bool true := by rw [hev]; rfl
                have e2 : A.eval (.tmp 105) = .bool false := by rw [hev]; exact hG.pre 21 d21
                rw [if_pos (by rfl)]
                unfold Oper.wp execOp
                generalize A.eval = ev at e0 e1 e2 ⊢
                go_simp
                exact hK _ _ (hG.first (by first | rfl | (simp; done) | (simp; omega) | (simp; assumption)))
              intro dn us wz hG hall
              have u22 : us 22 = .bool false := hG.pre 22 (hall 22 (by decide))
              have hbz := hG.below
              refine hK11 _ _ ?_
              simp only [fillA, fillT, Nat.reduceAdd, List.setIfInBounds_toArray, List.set_cons_zero, List.set_cons_succ, u22]
              clear hG hall u22
              have PZ := Lib.hid (HS.out.still hbz)
              have ekz : wz.cell? ⟨wc.heap.size, 1, none⟩ = some (.int .u64 (s.call op).key) := by rw [hbz.cell (World.block_lt_of_cell? _ _ eky)]; exact eky
              have e7z : wz.cell? ⟨w.heap.size + 1 + 1 + 1 + 1 + 1 + 1 + 1 + 1, 0, none⟩ = some (.map (some (w.heap.size + 1 + 1 + 1 + 1 + 1))) := PZ.out.m7.cell 0
              clear e2c e3c e5c e6c e7c e8c eb0 eb1 eb2 eb3 eb4 eb5 eb6 ebl eky HH
              refine wpR_cond (t := false) rfl (wpR_skip ?_)
              refine hK10 _ _ ?_
              refine wpR_region_lit rfl ?_
              go_wp2_with (refine wpl_op (by rfl) (op_add 215 _ _ _ rfl Tryz.underlying215 Tryz.underlying26 (w.heap.size + 1 + 1 + 1 + 1 + 1) rfl _ rfl rfl PZ.out.s7 fun wy hMz Oz => ?_))
              refine ⟨rfl, ?_⟩
              have PP := PZ.out.opns (by omega) (by omega) (by omega) Oz hMz
              refine ⟨{ L with state := .busy }, PP.loop, ?_⟩
              rw [roundEnd_busy hs hp]
              exact ⟨_, by rw [HT.out, sndSt_snoc, HX.out]; exact hst, PP.put (by omega) (by omega) (by omega)⟩
            | true =>
              have HIN := Lib.hid hii
              clear hii
              by_cases hoo : (s.call op).key ∈ x.opn
              · have HOPEN := Lib.hid (decide_eq_true hoo)
                have hst : s.vw.sndStep bucket x n = none := by
                  unfold Vw.sndStep
                  rw [if_neg HC1.out, HOPV.out, HKEY.out, if_neg (by intro q; rcases q with q | q; exact HAG2.out q; exact Int.not_lt.2 HOV.out q)]
                  exact if_pos (.inr ⟨by rw [HWD.out]; exact HINW.out.1 HIN.out, hoo⟩)
                clear hoo
                have hnone : s.vw.sndSt bucket ⟨[], [], [], 0⟩ (s.chain bucket) = none := by
                  have h1 : s.vw.sndSt bucket ⟨[], [], [], 0⟩ ((s.chain bucket).take (j + 1)) = none := by rw [HT.out, sndSt_snoc, HX.out]; exact hst
                  have h2 := sndSt_none s.vw bucket ((s.chain bucket).take (j + 1)) ((s.chain bucket).drop (j + 1)) _ h1
                  rwa [List.take_append_drop] at h2
                refine wpR_region_J (l := [_, _, _, _, _, _, _, _, _, _, _, _, _, _, _, _, _, _, _, _, _, _, _]) (QG (fun j v => match j with | 0 => v = .pointer (some ⟨k.bw, 0, none⟩) | 1 => v = .pointer (some ⟨k.bw, 0, none⟩) | 2 => v = .pointer (some ⟨k.bw, 5, none⟩) | 3 => v = .pointer (some ⟨k.bc, 0, none⟩) | 4 => v = .pointer (some ⟨k.bw, 0, none⟩) | 5 => v = .pointer (some ⟨k.bw, 0, none⟩) | 6 => v = .pointer (some ⟨k.bw, 0, none⟩) | 7 => v = s.c.val | 8 => v = .int .i64 n | 9 => v = .int .i64 (s.nextAt n) | 10 => v = .int .u64 (s.peek (s.nextAt n)) | 11 => v = .bool false | 12 => v = .bool false | 13 => v = .pointer (some ⟨k.bw, 0, none⟩) | 14 => v = .int .i64 op | 15 => v = .bool true | 16 => v = .bool true | 17 => v = .map (some (w.heap.size + 1 + 1 + 1 + 1 + 1)) | 18 => v = .pointer (some ⟨wc.heap.size, 1, none⟩) | 19 => v = .int .u64 (s.call op).key | 20 => v = .bool true | 21 => v = .bool true | 22 => v = .bool true | _ => True) wg) (by kernel_rfl) (by kernel_rfl) (by rfl) (fun us => QG.start us) ⟨?_, ?_, ?_, ?_, ?_, ?_, ?_, ?_, ?_, ?_, ?_, ?_, ?_, ?_, ?_, ?_, ?_, ?_, ?_, ?_, ?_, ?_, ?_, trivial⟩ ?_
                · intro dn us w6 A hev hy hG hdn hdep K hK
                  have e0 : A.eval (.tmp 2) = .pointer (some ⟨w.heap.size, 0, none⟩) := by rw [hev]; rfl
                  have cc0 : w6.cell? ⟨w.heap.size, 0, none⟩ = some (.pointer (some ⟨k.bw, 0, none⟩)) := by rw [hG.below.cell (World.block_lt_of_cell? _ _ e2c)]; exact e2c
                  rw [if_pos (by rfl)]
                  unfold Oper.wp execOp
                  generalize A.eval = ev at e0 ⊢
                  go_simp
                  exact hK _ _ (hG.first (by first | rfl | (simp; done) | (simp; omega) | (simp; assumption)))
                · intro dn us w6 A hev hy hG hdn hdep K hK
                  have d0 : dn 0 = true := allD_mem hdep (by decide)
                  have e0 : A.eval (.tmp 84) = .pointer (some ⟨k.bw, 0, none⟩) := by rw [hev]; exact hG.pre 0 d0
                  rw [if_pos (by rfl)]
                  unfold Oper.wp execOp
                  generalize A.eval = ev at e0 ⊢
                  go_simp
                  exact hK _ _ (hG.first (by first | rfl | (simp; done) | (simp; omega) | (simp; assumption)))
                · intro dn us w6 A hev hy hG hdn hdep K hK
                  have d1 : dn 1 = true := allD_mem hdep (by decide)
                  have e0 : A.eval (.tmp 85) = .pointer (some ⟨k.bw, 0, none⟩) := by rw [hev]; exact hG.pre 1 d1
                  rw [if_pos (by rfl)]
                  unfold Oper.wp execOp
                  generalize A.eval = ev at e0 ⊢
                  go_simp
                  exact hK _ _ (hG.first (by first | rfl | (simp; done) | (simp; omega) | (simp; assumption)))
                · intro dn us w6 A hev hy hG hdn hdep K hK
                  have d2 : dn 2 = true := allD_mem hdep (by decide)
                  have e0 : A.eval (.tmp 86) = .pointer (some ⟨k.bw, 5, none⟩) := by rw [hev]; exact hG.pre 2 d2
                  have cc0 : w6.cell? ⟨k.bw, 5, none⟩ = some (.pointer (some ⟨k.bc, 0, none⟩)) := by rw [hG.below.cell (World.block_lt_of_cell? _ _ eb5)]; exact eb5
                  rw [if_pos (by rfl)]
                  unfold Oper.wp execOp
                  generalize A.eval = ev at e0 ⊢
                  go_simp
                  exact hK _ _ (hG.first (by first | rfl | (simp; done) | (simp; omega) | (simp; assumption)))
                · intro dn us w6 A hev hy hG hdn hdep K hK
                  have e0 : A.eval (.tmp 2) = .pointer (some ⟨w.heap.size, 0, none⟩) := by rw [hev]; rfl
                  have cc0 : w6.cell? ⟨w.heap.size, 0, none⟩ = some (.pointer (some ⟨k.bw, 0, none⟩)) := by rw [hG.below.cell (World.block_lt_of_cell? _ _ e2c)]; exact e2c
                  rw [if_pos (by rfl)]
                  unfold Oper.wp execOp
                  generalize A.eval = ev at e0 ⊢
                  go_simp
                  exact hK _ _ (hG.first (by first | rfl | (simp; done) | (simp; omega) | (simp; assumption)))
                · intro dn us w6 A hev hy hG hdn hdep K hK
                  have d4 : dn 4 = true := allD_mem hdep (by decide)
                  have e0 : A.eval (.tmp 88) = .pointer (some ⟨k.bw, 0, none⟩) := by rw [hev]; exact hG.pre 4 d4
                  rw [if_pos (by rfl)]
                  unfold Oper.wp execOp
                  generalize A.eval = ev at e0 ⊢
                  go_simp
                  exact hK _ _ (hG.first (by first | rfl | (simp; done) | (simp; omega) | (simp; assumption)))
                · intro dn us w6 A hev hy hG hdn hdep K hK
                  have d5 : dn 5 = true := allD_mem hdep (by decide)
                  have e0 : A.eval (.tmp 89) = .pointer (some ⟨k.bw, 0, none⟩) := by rw [hev]; exact hG.pre 5 d5
                  rw [if_pos (by rfl)]
                  unfold Oper.wp execOp
                  generalize A.eval = ev at e0 ⊢
                  go_simp
                  exact hK _ _ (hG.first (by first | rfl | (simp; done) | (simp; omega) | (simp; assumption)))
                · intro dn us w6 A hev hy hG hdn hdep K hK
                  have d6 : dn 6 = true := allD_mem hdep (by decide)
                  have e0 : A.eval (.tmp 90) = .pointer (some ⟨k.bw, 0, none⟩) := by rw [hev]; exact hG.pre 6 d6
                  have cc0 : w6.cell? ⟨k.bw, 0, none⟩ = some (.int .i64 s.c.threads) := by rw [hG.below.cell (World.block_lt_of_cell? _ _ eb0)]; exact eb0
                  have cc1 : w6.cell? ⟨k.bw, 1, none⟩ = some (.int .i64 s.c.buckets) := by rw [hG.below.cell (World.block_lt_of_cell? _ _ eb1)]; exact eb1
                  have cc2 : w6.cell? ⟨k.bw, 2, none⟩ = some (.int .i64 s.c.inserts) := by rw [hG.below.cell (World.block_lt_of_cell? _ _ eb2)]; exact eb2
                  have cc3 : w6.cell? ⟨k.bw, 3, none⟩ = some (.int .i64 s.c.fuel) := by rw [hG.below.cell (World.block_lt_of_cell? _ _ eb3)]; exact eb3
                  have cc4 : w6.cell? ⟨k.bw, 4, none⟩ = some (.int .i64 s.c.calls) := by rw [hG.below.cell (World.block_lt_of_cell? _ _ eb4)]; exact eb4
                  rw [if_pos (by rfl)]
                  unfold Oper.wp execOp
                  generalize A.eval = ev at e0 ⊢
                  go_simp
                  exact hK _ _ (hG.first (by first | rfl | (simp; done) | (simp; omega) | (simp; assumption)))
                · intro dn us w6 A hev hy hG hdn hdep K hK
                  have e0 : A.eval (.tmp 9) = .int .i64 n := by rw [hev]; rfl
                  rw [if_pos (by rfl)]
                  unfold Oper.wp execOp
                  generalize A.eval = ev at e0 ⊢
                  go_simp
                  exact hK _ _ (hG.first (by first | rfl | (simp; done) | (simp; omega) | (simp; assumption)))
                · intro dn us w6 A hev hy hG hdn hdep K hK
                  have d7 : dn 7 = true := allD_mem hdep (by decide)
                  have d8 : dn 8 = true := allD_mem hdep (by decide)
                  have e0 : A.eval (.tmp 91) = s.c.val := by rw [hev]; exact hG.pre 7 d7
                  have e1 : A.eval (.tmp 92) = .int .i64 n := by rw [hev]; exact hG.pre 8 d8
                  have ef : A.eval (.func 103) = .func (.func 103) #[] #[] := by rw [hev]; rfl
                  rw [if_pos (by rfl)]
                  unfold Oper.wp execOp
                  generalize A.eval = ev at e0 e1 ef ⊢
                  go_simp
                  refine (next_any s.c n _).mono ?_
                  rintro e wq ⟨rfl, hb⟩
                  exact hK _ _ (hG.called rfl hb)
                · intro dn us w6 A hev hy hG hdn hdep K hK
                  have d3 : dn 3 = true := allD_mem hdep (by decide)
                  have d9 : dn 9 = true := allD_mem hdep (by decide)
                  have e0 : A.eval (.tmp 87) = .pointer (some ⟨k.bc, 0, none⟩) := by rw [hev]; exact hG.pre 3 d3
                  have e1 : A.eval (.tmp 93) = .int .i64 (s.nextAt n) := by rw [hev]; exact hG.pre 9 d9
                  have ef : A.eval (.func 45) = .func (.func 45) #[] #[] := by rw [hev]; rfl
                  rw [if_pos (by rfl)]
                  unfold Oper.wp execOp
                  generalize A.eval = ev at e0 e1 ef ⊢
                  go_simp
                  refine (peek_any (s.nextAt n) _ (HH.out.cells.below hG.below)).mono ?_
                  rintro e wq ⟨rfl, rfl⟩
                  exact hK _ _ (hG.first rfl)
                · intro dn us w6 A hev hy hG hdn hdep K hK
                  have d10 : dn 10 = true := allD_mem hdep (by decide)
                  have e0 : A.eval (.tmp 94) = .int .u64 (s.peek (s.nextAt n)) := by rw [hev]; exact hG.pre 10 d10
                  have ef : A.eval (.func 153) = .func (.func 153) #[] #[] := by rw [hev]; rfl
                  rw [if_pos (by rfl)]
                  unfold Oper.wp execOp
                  generalize A.eval = ev at e0 ef ⊢
                  go_simp
                  refine (marked_any (s.peek (s.nextAt n)) _ HPK.out.1 HPK.out.2).mono ?_
                  rintro e wq ⟨rfl, rfl⟩
                  exact hK _ _ (hG.first (by show Value.bool _ = Value.bool _; rw [HMARK.out]))
                · intro dn us w6 A hev hy hG hdn hdep K hK
                  have d11 : dn 11 = true := allD_mem hdep (by decide)
                  have e0 : A.eval (.tmp 95) = .bool false := by rw [hev]; exact hG.pre 11 d11
                  rw [if_pos (by rfl)]
                  unfold Oper.wp execOp
                  generalize A.eval = ev at e0 ⊢
                  go_simp
                  exact hK _ _ (hG.first (by first | rfl | (simp; done) | (simp; omega) | (simp; assumption)))
                · intro dn us w6 A hev hy hG hdn hdep K hK
                  have d12 : dn 12 = true := allD_mem hdep (by decide)
                  have e0 : A.eval (.tmp 2) = .pointer (some ⟨w.heap.size, 0, none⟩) := by rw [hev]; rfl
                  have cc0 : w6.cell? ⟨w.heap.size, 0, none⟩ = some (.pointer (some ⟨k.bw, 0, none⟩)) := by rw [hG.below.cell (World.block_lt_of_cell? _ _ e2c)]; exact e2c
                  have hg : us 12 = .bool false := hG.pre 12 d12
                  rw [if_pos (by rw [hy]; show ((match us 12 with | .bool b => some b | _ => none) == some false) = true; rw [hg]; rfl)]
                  unfold Oper.wp execOp
                  generalize A.eval = ev at e0 ⊢
                  go_simp
                  exact hK _ _ (hG.first (by first | rfl | (simp; done) | (simp; omega) | (simp; assumption)))
                · intro dn us w6 A hev hy hG hdn hdep K hK
                  have d12 : dn 12 = true := allD_mem hdep (by decide)
                  have e0 : A.eval (.tmp 10) = .int .i64 op := by rw [hev]; rfl
                  have hg : us 12 = .bool false := hG.pre 12 d12
                  rw [if_pos (by rw [hy]; show ((match us 12 with | .bool b => some b | _ => none) == some false) = true; rw [hg]; rfl)]
                  unfold Oper.wp execOp
                  generalize A.eval = ev at e0 ⊢
                  go_simp
                  exact hK _ _ (hG.first (by first | rfl | (simp; done) | (simp; omega) | (simp; assumption)))
                · intro dn us w6 A hev hy hG hdn hdep K hK
                  have d12 : dn 12 = true := allD_mem hdep (by decide)
                  have d13 : dn 13 = true := allD_mem hdep (by decide)
                  have d14 : dn 14 = true := allD_mem hdep (by decide)
                  have e0 : A.eval (.tmp 97) = .pointer (some ⟨k.bw, 0, none⟩) := by rw [hev]; exact hG.pre 13 d13
                  have e1 : A.eval (.tmp 98) = .int .i64 op := by rw [hev]; exact hG.pre 14 d14
                  have ef : A.eval (.func 112) = .func (.func 112) #[] #[] := by rw [hev]; rfl
                  have hg : us 12 = .bool false := hG.pre 12 d12
                  rw [if_pos (by rw [hy]; show ((match us 12 with | .bool b => some b | _ => none) == some false) = true; rw [hg]; rfl)]
                  unfold Oper.wp execOp
                  generalize A.eval = ev at e0 e1 ef ⊢
                  go_simp
                  refine (lin_any op _ (HH.out.below hG.below)).mono ?_
                  rintro e wq ⟨rfl, hb⟩
                  exact hK _ _ (hG.called (by show Value.bool _ = Value.bool _; rw [HIN.out]) hb)
                · intro dn us w6 A hev hy hG hdn hdep K hK
                  have d12 : dn 12 = true := allD_mem hdep (by decide)
                  have d15 : dn 15 = true := allD_mem hdep (by decide)
                  have e0 : A.eval (.tmp 99) = .bool true := by rw [hev]; exact hG.pre 15 d15
                  have hg : us 12 = .bool false := hG.pre 12 d12
                  rw [if_pos (by rw [hy]; show ((match us 12 with | .bool b => some b | _ => none) == some false) = true; rw [hg]; rfl)]
                  unfold Oper.wp execOp
                  generalize A.eval = ev at e0 ⊢
                  go_simp
                  exact hK _ _ (hG.first (by first | rfl | (simp; done) | (simp; omega) | (simp; assumption)))
                · intro dn us w6 A hev hy hG hdn hdep K hK
                  have d16 : dn 16 = true := allD_mem hdep (by decide)
                  have e0 : A.eval (.tmp 7) = .pointer (some ⟨w.heap.size + 1 + 1 + 1 + 1 + 1 + 1 + 1 + 1, 0, none⟩) := by rw [hev]; rfl
                  have cc0 : w6.cell? ⟨w.heap.size + 1 + 1 + 1 + 1 + 1 + 1 + 1 + 1, 0, none⟩ = some (.map (some (w.heap.size + 1 + 1 + 1 + 1 + 1))) := by rw [hG.below.cell (World.block_lt_of_cell? _ _ e7c)]; exact e7c
                  have hg : us 16 = .bool true := hG.pre 16 d16
                  rw [if_pos (by rw [hy]; show ((match us 16 with | .bool b => some b | _ => none) == some true) = true; rw [hg]; rfl)]
                  unfold Oper.wp execOp
                  generalize A.eval = ev at e0 ⊢
                  go_simp
                  exact hK _ _ (hG.first (by first | rfl | (simp; done) | (simp; omega) | (simp; assumption)))
                · intro dn us w6 A hev hy hG hdn hdep K hK
                  have d16 : dn 16 = true := allD_mem hdep (by decide)
                  have e0 : A.eval (.tmp 11) = .pointer (some ⟨wc.heap.size, 0, none⟩) := by rw [hev]; rfl
                  have hg : us 16 = .bool true := hG.pre 16 d16
                  rw [if_pos (by rw [hy]; show ((match us 16 with | .bool b => some b | _ => none) == some true) = true; rw [hg]; rfl)]
                  unfold Oper.wp execOp
                  generalize A.eval = ev at e0 ⊢
                  go_simp
                  exact hK _ _ (hG.first (by first | rfl | (simp; done) | (simp; omega) | (simp; assumption)))
                · intro dn us w6 A hev hy hG hdn hdep K hK
                  have d16 : dn 16 = true := allD_mem hdep (by decide)
                  have d18 : dn 18 = true := allD_mem hdep (by decide)
                  have e0 : A.eval (.tmp 102) = .pointer (some ⟨wc.heap.size, 1, none⟩) := by rw [hev]; exact hG.pre 18 d18
                  have cc0 : w6.cell? ⟨wc.heap.size, 1, none⟩ = some (.int .u64 (s.call op).key) := by rw [hG.below.cell (World.block_lt_of_cell? _ _ eky)]; exact eky
                  have hg : us 16 = .bool true := hG.pre 16 d16
                  rw [if_pos (by rw [hy]; show ((match us 16 with | .bool b => some b | _ => none) == some true) = true; rw [hg]; rfl)]
                  unfold Oper.wp execOp
                  generalize A.eval = ev at e0 ⊢
                  go_simp
                  exact hK _ _ (hG.first (by first | rfl | (simp; done) | (simp; omega) | (simp; assumption)))
                · intro dn us w6 A hev hy hG hdn hdep K hK
                  have d16 : dn 16 = true := allD_mem hdep (by decide)
                  have d17 : dn 17 = true := allD_mem hdep (by decide)
                  have d19 : dn 19 = true := allD_mem hdep (by decide)
                  have e0 : A.eval (.tmp 101) = .map (some (w.heap.size + 1 + 1 + 1 + 1 + 1)) := by rw [hev]; exact hG.pre 17 d17
                  have e1 : A.eval (.tmp 103) = .int .u64 (s.call op).key := by rw [hev]; exact hG.pre 19 d19
                  have hg : us 16 = .bool true := hG.pre 16 d16
                  rw [if_pos (by rw [hy]; show ((match us 16 with | .bool b => some b | _ => none) == some true) = true; rw [hg]; rfl)]
                  refine op_has 215 (.tmp 101) (.tmp 103) rfl Tryz.underlying215 Tryz.underlying26 zbool (w.heap.size + 1 + 1 + 1 + 1 + 1) e0 _ e1 (HS.out.s7.below hG.below) ?_
                  exact hK _ _ (hG.first (by show Value.bool _ = Value.bool _; rw [HOPEN.out]))
                · intro dn us w6 A hev hy hG hdn hdep K hK
                  have d12 : dn 12 = true := allD_mem hdep (by decide)
                  have d16 : dn 16 = true := allD_mem hdep (by decide)
                  have d20 : dn 20 = true := allD_mem hdep (by decide)
                  have e0 : A.eval (.tmp 100) = .bool true := by rw [hev]; exact hG.pre 16 d16
                  have e1 : A.eval (.tmp 104) = .bool true := by rw [hev]; exact hG.pre 20 d20
                  have e2 : A.eval (.const (.bool false)) = .bool false := by rw [hev]; rfl
                  have hg : us 12 = .bool false := hG.pre 12 d12
                  rw [if_pos (by rw [hy]; show ((match us 12 with | .bool b => some b | _ => none) == some false) = true; rw [hg]; rfl)]
                  unfold Oper.wp execOp
                  generalize A.eval = ev at e0 e1 e2 ⊢
                  go_simp
                  exact hK _ _ (hG.first (by first | rfl | (simp; done) | (simp; omega) | (simp; assumption)))
                · intro dn us w6 A hev hy hG hdn hdep K hK
                  have d12 : dn 12 = true := allD_mem hdep (by decide)
                  have d21 : dn 21 = true := allD_mem hdep (by decide)
                  have e0 : A.eval (.tmp 96) = .bool false := by rw [hev]; exact hG.pre 12 d12
                  have e1 : A.eval (.const (.bool true)) = .bool true := by rw [hev]; rfl
                  have e2 : A.eval (.tmp 105) = .bool true := by rw [hev]; exact hG.pre 21 d21
                  rw [if_pos (by rfl)]
                  unfold Oper.wp execOp
                  generalize A.eval = ev at e0 e1 e2 ⊢
                  go_simp
                  exact hK _ _ (hG.first (by first | rfl | (simp; done) | (simp; omega) | (simp; assumption)))
                intro dn us wz hG hall
                have u22 : us 22 = .bool true := hG.pre 22 (hall 22 (by decide))
                have hbz := hG.below
                refine hK11 _ _ ?_
                simp only [fillA, fillT, Nat.reduceAdd, List.setIfInBounds_toArray, List.set_cons_zero, List.set_cons_succ, u22]
                clear hG hall u22
                have PZ := Lib.hid (HS.out.still hbz)
                clear e2c e3c e5c e6c e7c e8c eb0 eb1 eb2 eb3 eb4 eb5 eb6 ebl eky HH
                refine wpR_cond (t := true) rfl ?_
                refine wpR_seq_k fun K7 hK7 => ?_
                refine wpR_region_lit rfl ?_
                go_wp2_with (refine wpl_st rfl 4 _ _ rfl #[.bool false] rfl _ rfl (PZ.out).p4 (by kernel_rfl) rfl rfl rfl ?_; intro wy A4 O4; have TTT := True.intro)
                refine ⟨rfl, hK7 _ _ ?_⟩
                refine wpR_ret ?_
                obtain ⟨q1, q2⟩ := (PZ.out).stop (by omega) (by omega) (by omega) O4 A4
                exact ⟨{ L with state := .busy }, q1, q2, hnone⟩
              · have HOPEN := Lib.hid (decide_eq_false hoo)
                have HOO := Lib.hid hoo
                clear hoo
                have hst : s.vw.sndStep bucket x n = some ⟨x.seen ++ [n], addS x.again op, addS x.opn (s.call op).key, (s.call op).key⟩ := by
                  unfold Vw.sndStep
                  rw [if_neg HC1.out, HOPV.out, HKEY.out, if_neg (by intro q; rcases q with q | q; exact HAG2.out q; exact Int.not_lt.2 HOV.out q)]
                  exact if_neg (by
                    intro q
                    rcases q with q | ⟨q1, q2⟩
                    · rw [HNX.out] at q
                      have := HMARK.out
                      rw [q] at this
                      cases this
                    · exact HOO.out q2)
                refine wpR_region_J (l := [_, _, _, _, _, _, _, _, _, _, _, _, _, _, _, _, _, _, _, _, _, _, _]) (QG (fun j v => match j with | 0 => v = .pointer (some ⟨k.bw, 0, none⟩) | 1 => v = .pointer (some ⟨k.bw, 0, none⟩) | 2 => v = .pointer (some ⟨k.bw, 5, none⟩) | 3 => v = .pointer (some ⟨k.bc, 0, none⟩) | 4 => v = .pointer (some ⟨k.bw, 0, none⟩) | 5 => v = .pointer (some ⟨k.bw, 0, none⟩) | 6 => v = .pointer (some ⟨k.bw, 0, none⟩) | 7 => v = s.c.val | 8 => v = .int .i64 n | 9 => v = .int .i64 (s.nextAt n) | 10 => v = .int .u64 (s.peek (s.nextAt n)) | 11 => v = .bool false | 12 => v = .bool false | 13 => v = .pointer (some ⟨k.bw, 0, none⟩) | 14 => v = .int .i64 op | 15 => v = .bool true | 16 => v = .bool true | 17 => v = .map (some (w.heap.size + 1 + 1 + 1 + 1 + 1)) | 18 => v = .pointer (some ⟨wc.heap.size, 1, none⟩) | 19 => v = .int .u64 (s.call op).key | 20 => v = .bool false | 21 => v = .bool false | 22 => v = .bool false | _ => True) wg) (by kernel_rfl) (by kernel_rfl) (by rfl) (fun us => QG.start us) ⟨?_, ?_, ?_, ?_, ?_, ?_, ?_, ?_, ?_, ?_, ?_, ?_, ?_, ?_, ?_, ?_, ?_, ?_, ?_, ?_, ?_, ?_, ?_, trivial⟩ ?_
                · intro dn us w6 A hev hy hG hdn hdep K hK
                  have e0 : A.eval (.tmp 2) = .pointer (some ⟨w.heap.size, 0, none⟩) := by rw [hev]; rfl
                  have cc0 : w6.cell? ⟨w.heap.size, 0, none⟩ = some (.pointer (some ⟨k.bw, 0, none⟩)) := by rw [hG.below.cell (World.block_lt_of_cell? _ _ e2c)]; exact e2c
                  rw [if_pos (by rfl)]
                  unfold Oper.wp execOp
                  generalize A.eval = ev at e0 ⊢
                  go_simp
                  exact hK _ _ (hG.first (by first | rfl | (simp; done) | (simp; omega) | (simp; assumption)))
                · intro dn us w6 A hev hy hG hdn hdep K hK
                  have d0 : dn 0 = true := allD_mem hdep (by decide)
                  have e0 : A.eval (.tmp 84) = .pointer (some ⟨k.bw, 0, none⟩) := by rw [hev]; exact hG.pre 0 d0
                  rw [if_pos (by rfl)]
                  unfold Oper.wp execOp
                  generalize A.eval = ev at e0 ⊢
                  go_simp
                  exact hK _ _ (hG.first (by first | rfl | (simp; done) | (simp; omega) | (simp; assumption)))
                · intro dn us w6 A hev hy hG hdn hdep K hK
                  have d1 : dn 1 = true := allD_mem hdep (by decide)
                  have e0 : A.eval (.tmp 85) = .pointer (some ⟨k.bw, 0, none⟩) := by rw [hev]; exact hG.pre 1 d1
                  rw [if_pos (by rfl)]
                  unfold Oper.wp execOp
                  generalize A.eval = ev at e0 ⊢
                  go_simp
                  exact hK _ _ (hG.first (by first | rfl | (simp; done) | (simp; omega) | (simp; assumption)))
                · intro dn us w6 A hev hy hG hdn hdep K hK
                  have d2 : dn 2 = true := allD_mem hdep (by decide)
                  have e0 : A.eval (.tmp 86) = .pointer (some ⟨k.bw, 5, none⟩) := by rw [hev]; exact hG.pre 2 d2
                  have cc0 : w6.cell? ⟨k.bw, 5, none⟩ = some (.pointer (some ⟨k.bc, 0, none⟩)) := by rw [hG.below.cell (World.block_lt_of_cell? _ _ eb5)]; exact eb5
                  rw [if_pos (by rfl)]
                  unfold Oper.wp execOp
                  generalize A.eval = ev at e0 ⊢
                  go_simp
                  exact hK _ _ (hG.first (by first | rfl | (simp; done) | (simp; omega) | (simp; assumption)))
                · intro dn us w6 A hev hy hG hdn hdep K hK
                  have e0 : A.eval (.tmp 2) = .pointer (some ⟨w.heap.size, 0, none⟩) := by rw [hev]; rfl
                  have cc0 : w6.cell? ⟨w.heap.size, 0, none⟩ = some (.pointer (some ⟨k.bw, 0, none⟩)) := by rw [hG.below.cell (World.block_lt_of_cell? _ _ e2c)]; exact e2c
                  rw [if_pos (by rfl)]
                  unfold Oper.wp execOp
                  generalize A.eval = ev at e0 ⊢
                  go_simp
                  exact hK _ _ (hG.first (by first | rfl | (simp; done) | (simp; omega) | (simp; assumption)))
                · intro dn us w6 A hev hy hG hdn hdep K hK
                  have d4 : dn 4 = true := allD_mem hdep (by decide)
                  have e0 : A.eval (.tmp 88) = .pointer (some ⟨k.bw, 0, none⟩) := by rw [hev]; exact hG.pre 4 d4
                  rw [if_pos (by rfl)]
                  unfold Oper.wp execOp
                  generalize A.eval = ev at e0 ⊢
                  go_simp
                  exact hK _ _ (hG.first (by first | rfl | (simp; done) | (simp; omega) | (simp; assumption)))
                · intro dn us w6 A hev hy hG hdn hdep K hK
                  have d5 : dn 5 = true := allD_mem hdep (by decide)
                  have e0 : A.eval (.tmp 89) = .pointer (some ⟨k.bw, 0, none⟩) := by rw [hev]; exact hG.pre 5 d5
                  rw [if_pos (by rfl)]
                  unfold Oper.wp execOp
                  generalize A.eval = ev at e0 ⊢
                  go_simp
                  exact hK _ _ (hG.first (by first | rfl | (simp; done) | (simp; omega) | (simp; assumption)))
                · intro dn us w6 A hev hy hG hdn hdep K hK
                  have d6 : dn 6 = true := allD_mem hdep (by decide)
                  have e0 : A.eval (.tmp 90) = .pointer (some ⟨k.bw, 0, none⟩) := by rw [hev]; exact hG.pre 6 d6
                  have cc0 : w6.cell? ⟨k.bw, 0, none⟩ = some (.int .i64 s.c.threads) := by rw [hG.below.cell (World.block_lt_of_cell? _ _ eb0)]; exact eb0
                  have cc1 : w6.cell? ⟨k.bw, 1, none⟩ = some (.int .i64 s.c.buckets) := by rw [hG.below.cell (World.block_lt_of_cell? _ _ eb1)]; exact eb1
                  have cc2 : w6.cell? ⟨k.bw, 2, none⟩ = some (.int .i64 s.c.inserts) := by rw [hG.below.cell (World.block_lt_of_cell? _ _ eb2)]; exact eb2
                  have cc3 : w6.cell? ⟨k.bw, 3, none⟩ = some (.int .i64 s.c.fuel) := by rw [hG.below.cell (World.block_lt_of_cell? _ _ eb3)]; exact eb3
                  have cc4 : w6.cell? ⟨k.bw, 4, none⟩ = some (.int .i64 s.c.calls) := by rw [hG.below.cell (World.block_lt_of_cell? _ _ eb4)]; exact eb4
                  rw [if_pos (by rfl)]
                  unfold Oper.wp execOp
                  generalize A.eval = ev at e0 ⊢
                  go_simp
                  exact hK _ _ (hG.first (by first | rfl | (simp; done) | (simp; omega) | (simp; assumption)))
                · intro dn us w6 A hev hy hG hdn hdep K hK
                  have e0 : A.eval (.tmp 9) = .int .i64 n := by rw [hev]; rfl
                  rw [if_pos (by rfl)]
                  unfold Oper.wp execOp
                  generalize A.eval = ev at e0 ⊢
                  go_simp
                  exact hK _ _ (hG.first (by first | rfl | (simp; done) | (simp; omega) | (simp; assumption)))
                · intro dn us w6 A hev hy hG hdn hdep K hK
                  have d7 : dn 7 = true := allD_mem hdep (by decide)
                  have d8 : dn 8 = true := allD_mem hdep (by decide)
                  have e0 : A.eval (.tmp 91) = s.c.val := by rw [hev]; exact hG.pre 7 d7
                  have e1 : A.eval (.tmp 92) = .int .i64 n := by rw [hev]; exact hG.pre 8 d8
                  have ef : A.eval (.func 103) = .func (.func 103) #[] #[] := by rw [hev]; rfl
                  rw [if_pos (by rfl)]
                  unfold Oper.wp execOp
                  generalize A.eval = ev at e0 e1 ef ⊢
                  go_simp
                  refine (next_any s.c n _).mono ?_
                  rintro e wq ⟨rfl, hb⟩
                  exact hK _ _ (hG.called rfl hb)
                · intro dn us w6 A hev hy hG hdn hdep K hK
                  have d3 : dn 3 = true := allD_mem hdep (by decide)
                  have d9 : dn 9 = true := allD_mem hdep (by decide)
                  have e0 : A.eval (.tmp 87) = .pointer (some ⟨k.bc, 0, none⟩) := by rw [hev]; exact hG.pre 3 d3
                  have e1 : A.eval (.tmp 93) = .int .i64 (s.nextAt n) := by rw [hev]; exact hG.pre 9 d9
                  have ef : A.eval (.func 45) = .func (.func 45) #[] #[] := by rw [hev]; rfl
                  rw [if_pos (by rfl)]
                  unfold Oper.wp execOp
                  generalize A.eval = ev at e0 e1 ef ⊢
                  go_simp
                  refine (peek_any (s.nextAt n) _ (HH.out.cells.below hG.below)).mono ?_
                  rintro e wq ⟨rfl, rfl⟩
                  exact hK _ _ (hG.first rfl)
                · intro dn us w6 A hev hy hG hdn hdep K hK
                  have d10 : dn 10 = true := allD_mem hdep (by decide)
                  have e0 : A.eval (.tmp 94) = .int .u64 (s.peek (s.nextAt n)) := by rw [hev]; exact hG.pre 10 d10
                  have ef : A.eval (.func 153) = .func (.func 153) #[] #[] := by rw [hev]; rfl
                  rw [if_pos (by rfl)]
                  unfold Oper.wp execOp
                  generalize A.eval = ev at e0 ef ⊢
                  go_simp
                  refine (marked_any (s.peek (s.nextAt n)) _ HPK.out.1 HPK.out.2).mono ?_
                  rintro e wq ⟨rfl, rfl⟩
                  exact hK _ _ (hG.first (by show Value.bool _ = Value.bool _; rw [HMARK.out]))
                · intro dn us w6 A hev hy hG hdn hdep K hK
                  have d11 : dn 11 = true := allD_mem hdep (by decide)
                  have e0 : A.eval (.tmp 95) = .bool false := by rw [hev]; exact hG.pre 11 d11
                  rw [if_pos (by rfl)]
                  unfold Oper.wp execOp
                  generalize A.eval = ev at e0 ⊢
                  go_simp
                  exact hK _ _ (hG.first (by first | rfl | (simp; done) | (simp; omega) | (simp; assumption)))
                · intro dn us w6 A hev hy hG hdn hdep K hK
                  have d12 : dn 12 = true := allD_mem hdep (by decide)
                  have e0 : A.eval (.tmp 2) = .pointer (some ⟨w.heap.size, 0, none⟩) := by rw [hev]; rfl
                  have cc0 : w6.cell? ⟨w.heap.size, 0, none⟩ = some (.pointer (some ⟨k.bw, 0, none⟩)) := by rw [hG.below.cell (World.block_lt_of_cell? _ _ e2c)]; exact e2c
                  have hg : us 12 = .bool false := hG.pre 12 d12
                  rw [if_pos (by rw [hy]; show ((match us 12 with | .bool b => some b | _ => none) == some false) = true; rw [hg]; rfl)]
                  unfold Oper.wp execOp
                  generalize A.eval = ev at e0 ⊢
                  go_simp
                  exact hK _ _ (hG.first (by first | rfl | (simp; done) | (simp; omega) | (simp; assumption)))
                · intro dn us w6 A hev hy hG hdn hdep K hK
                  have d12 : dn 12 = true := allD_mem hdep (by decide)
                  have e0 : A.eval (.tmp 10) = .int .i64 op := by rw [hev]; rfl
                  have hg : us 12 = .bool false := hG.pre 12 d12
                  rw [if_pos (by rw [hy]; show ((match us 12 with | .bool b => some b | _ => none) == some false) = true; rw [hg]; rfl)]
                  unfold Oper.wp execOp
                  generalize A.eval = ev at e0 ⊢
                  go_simp
                  exact hK _ _ (hG.first (by first | rfl | (simp; done) | (simp; omega) | (simp; assumption)))
                · intro dn us w6 A hev hy hG hdn hdep K hK
                  have d12 : dn 12 = true := allD_mem hdep (by decide)
                  have d13 : dn 13 = true := allD_mem hdep (by decide)
                  have d14 : dn 14 = true := allD_mem hdep (by decide)
                  have e0 : A.eval (.tmp 97) = .pointer (some ⟨k.bw, 0, none⟩) := by rw [hev]; exact hG.pre 13 d13
                  have e1 : A.eval (.tmp 98) = .int .i64 op := by rw [hev]; exact hG.pre 14 d14
                  have ef : A.eval (.func 112) = .func (.func 112) #[] #[] := by rw [hev]; rfl
                  have hg : us 12 = .bool false := hG.pre 12 d12
                  rw [if_pos (by rw [hy]; show ((match us 12 with | .bool b => some b | _ => none) == some false) = true; rw [hg]; rfl)]
                  unfold Oper.wp execOp
                  generalize A.eval = ev at e0 e1 ef ⊢
                  go_simp
                  refine (lin_any op _ (HH.out.below hG.below)).mono ?_
                  rintro e wq ⟨rfl, hb⟩
                  exact hK _ _ (hG.called (by show Value.bool _ = Value.bool _; rw [HIN.out]) hb)
                · intro dn us w6 A hev hy hG hdn hdep K hK
                  have d12 : dn 12 = true := allD_mem hdep (by decide)
                  have d15 : dn 15 = true := allD_mem hdep (by decide)
                  have e0 : A.eval (.tmp 99) = .bool true := by rw [hev]; exact hG.pre 15 d15
                  have hg : us 12 = .bool false := hG.pre 12 d12
                  rw [if_pos (by rw [hy]; show ((match us 12 with | .bool b => some b | _ => none) == some false) = true; rw [hg]; rfl)]
                  unfold Oper.wp execOp
                  generalize A.eval = ev at e0 ⊢
                  go_simp
                  exact hK _ _ (hG.first (by first | rfl | (simp; done) | (simp; omega) | (simp; assumption)))
                · intro dn us w6 A hev hy hG hdn hdep K hK
                  have d16 : dn 16 = true := allD_mem hdep (by decide)
                  have e0 : A.eval (.tmp 7) = .pointer (some ⟨w.heap.size + 1 + 1 + 1 + 1 + 1 + 1 + 1 + 1, 0, none⟩) := by rw [hev]; rfl
                  have cc0 : w6.cell? ⟨w.heap.size + 1 + 1 + 1 + 1 + 1 + 1 + 1 + 1, 0, none⟩ = some (.map (some (w.heap.size + 1 + 1 + 1 + 1 + 1))) := by rw [hG.below.cell (World.block_lt_of_cell? _ _ e7c)]; exact e7c
                  have hg : us 16 = .bool true := hG.pre 16 d16
                  rw [if_pos (by rw [hy]; show ((match us 16 with | .bool b => some b | _ => none) == some true) = true; rw [hg]; rfl)]
                  unfold Oper.wp execOp
                  generalize A.eval = ev at e0 ⊢
                  go_simp
                  exact hK _ _ (hG.first (by first | rfl | (simp; done) | (simp; omega) | (simp; assumption)))
                · intro dn us w6 A hev hy hG hdn hdep K hK
                  have d16 : dn 16 = true := allD_mem hdep (by decide)
                  have e0 : A.eval (.tmp 11) = .pointer (some ⟨wc.heap.size, 0, none⟩) := by rw [hev]; rfl
                  have hg : us 16 = .bool true := hG.pre 16 d16
                  rw [if_pos (by rw [hy]; show ((match us 16 with | .bool b => some b | _ => none) == some true) = true; rw [hg]; rfl)]
                  unfold Oper.wp execOp
                  generalize A.eval = ev at e0 ⊢
                  go_simp
                  exact hK _ _ (hG.first (by first | rfl | (simp; done) | (simp; omega) | (simp; assumption)))
                · intro dn us w6 A hev hy hG hdn hdep K hK
                  have d16 : dn 16 = true := allD_mem hdep (by decide)
                  have d18 : dn 18 = true := allD_mem hdep (by decide)
                  have e0 : A.eval (.tmp 102) = .pointer (some ⟨wc.heap.size, 1, none⟩) := by rw [hev]; exact hG.pre 18 d18
                  have cc0 : w6.cell? ⟨wc.heap.size, 1, none⟩ = some (.int .u64 (s.call op).key) := by rw [hG.below.cell (World.block_lt_of_cell? _ _ eky)]; exact eky
                  have hg : us 16 = .bool true := hG.pre 16 d16
                  rw [if_pos (by rw [hy]; show ((match us 16 with | .bool b => some b | _ => none) == some true) = true; rw [hg]; rfl)]
                  unfold Oper.wp execOp
                  generalize A.eval = ev at e0 ⊢
                  go_simp
                  exact hK _ _ (hG.first (by first | rfl | (simp; done) | (simp; omega) | (simp; assumption)))
                · intro dn us w6 A hev hy hG hdn hdep K hK
                  have d16 : dn 16 = true := allD_mem hdep (by decide)
                  have d17 : dn 17 = true := allD_mem hdep (by decide)
                  have d19 : dn 19 = true := allD_mem hdep (by decide)
                  have e0 : A.eval (.tmp 101) = .map (some (w.heap.size + 1 + 1 + 1 + 1 + 1)) := by rw [hev]; exact hG.pre 17 d17
                  have e1 : A.eval (.tmp 103) = .int .u64 (s.call op).key := by rw [hev]; exact hG.pre 19 d19
                  have hg : us 16 = .bool true := hG.pre 16 d16
                  rw [if_pos (by rw [hy]; show ((match us 16 with | .bool b => some b | _ => none) == some true) = true; rw [hg]; rfl)]
                  refine op_has 215 (.tmp 101) (.tmp 103) rfl Tryz.underlying215 Tryz.underlying26 zbool (w.heap.size + 1 + 1 + 1 + 1 + 1) e0 _ e1 (HS.out.s7.below hG.below) ?_
                  exact hK _ _ (hG.first (by show Value.bool _ = Value.bool _; rw [HOPEN.out]))
                · intro dn us w6 A hev hy hG hdn hdep K hK
                  have d12 : dn 12 = true := allD_mem hdep (by decide)
                  have d16 : dn 16 = true := allD_mem hdep (by decide)
                  have d20 : dn 20 = true := allD_mem hdep (by decide)
                  have e0 : A.eval (.tmp 100) = .bool true := by rw [hev]; exact hG.pre 16 d16
                  have e1 : A.eval (.tmp 104) = .bool false := by rw [hev]; exact hG.pre 20 d20
                  have e2 : A.eval (.const (.bool false)) = .bool false := by rw [hev]; rfl
                  have hg : us 12 = .bool false := hG.pre 12 d12
                  rw [if_pos (by rw [hy]; show ((match us 12 with | .bool b => some b | _ => none) == some false) = true; rw [hg]; rfl)]
                  unfold Oper.wp execOp
                  generalize A.eval = ev at e0 e1 e2 ⊢
                  go_simp
                  exact hK _ _ (hG.first (by first | rfl | (simp; done) | (simp; omega) | (simp; assumption)))
                · intro dn us w6 A hev hy hG hdn hdep K hK
                  have d12 : dn 12 = true := allD_mem hdep (by decide)
                  have d21 : dn 21 = true := allD_mem hdep (by decide)
                  have e0 : A.eval (.tmp 96) = .bool false := by rw [hev]; exact hG.pre 12 d12
                  have e1 : A.eval (.const (.bool true)) = .bool true := by rw [hev]; rfl
                  have e2 : A.eval (.tmp 105) = .bool false := by rw [hev]; exact hG.pre 21 d21
                  rw [if_pos (by rfl)]
                  unfold Oper.wp execOp
                  generalize A.eval = ev at e0 e1 e2 ⊢
                  go_simp
                  exact hK _ _ (hG.first (by first | rfl | (simp; done) | (simp; omega) | (simp; assumption)))
                intro dn us wz hG hall
                have u22 : us 22 = .bool false := hG.pre 22 (hall 22 (by decide))
                have hbz := hG.below
                refine hK11 _ _ ?_
                simp only [fillA, fillT, Nat.reduceAdd, List.setIfInBounds_toArray, List.set_cons_zero, List.set_cons_succ, u22]
                clear hG hall u22
                have PZ := Lib.hid (HS.out.still hbz)
                have ekz : wz.cell? ⟨wc.heap.size, 1, none⟩ = some (.int .u64 (s.call op).key) := by rw [hbz.cell (World.block_lt_of_cell? _ _ eky)]; exact eky
                have e7z : wz.cell? ⟨w.heap.size + 1 + 1 + 1 + 1 + 1 + 1 + 1 + 1, 0, none⟩ = some (.map (some (w.heap.size + 1 + 1 + 1 + 1 + 1))) := PZ.out.m7.cell 0
                clear e2c e3c e5c e6c e7c e8c eb0 eb1 eb2 eb3 eb4 eb5 eb6 ebl eky HH
                refine wpR_cond (t := false) rfl (wpR_skip ?_)
                refine hK10 _ _ ?_
                refine wpR_region_lit rfl ?_
                go_wp2_with (refine wpl_op (by rfl) (op_add 215 _ _ _ rfl Tryz.underlying215 Tryz.underlying26 (w.heap.size + 1 + 1 + 1 + 1 + 1) rfl _ rfl rfl PZ.out.s7 fun wy hMz Oz => ?_))
                refine ⟨rfl, ?_⟩
                have PP := PZ.out.opns (by omega) (by omega) (by omega) Oz hMz
                refine ⟨{ L with state := .busy }, PP.loop, ?_⟩
                rw [roundEnd_busy hs hp]
                exact ⟨_, by rw [HT.out, sndSt_snoc, HX.out]; exact hst, PP.put (by omega) (by omega) (by omega)⟩
  rintro e w' ⟨rfl, hF | ⟨x, hx, hC⟩⟩
  · obtain ⟨⟨⟨L', l1, l2, l3⟩, hmk, hA, hB⟩, hnone⟩ := hF
    have hrun : s.vw.sndRun bucket ⟨[], [], [], 0⟩ (s.chain bucket) = false := by rw [sndRun_st, hnone]; rfl
    have HRUN := Lib.hid hrun
    clear hrun
    refine ⟨_, rfl, L', l1, l2, ?_⟩
    have hm2 := (putLoop_heap w' (w5.heap.size + 1) { L' with state := .exhausted } w5.heap.size (by omega)).trans hmk
    have hA2 : At (putLoop w' (w5.heap.size + 1) { L' with state := .exhausted }) (w.heap.size + 1 + 1) 4 #[.bool false] := (putLoop_heap _ _ _ _ (by omega)).trans hA
    have hB2 : Below w.heap.size w (putLoop w' (w5.heap.size + 1) { L' with state := .exhausted }) := putLoop_below hB (by omega) _
    generalize putLoop w' (w5.heap.size + 1) { L' with state := .exhausted } = WE at *
    rw [l3]
    dsimp only
    (try simp only [Exit.inBlock, Exit.then])
    exact ⟨[w5.heap.size], rfl, ⟨by simp, by simpa using hm2⟩, _, res_one (fn := Tryz.f94) rfl _ _ (w.heap.size + 1 + 1) 4 false rfl ((taken_heap _ _ _ (by omega)).trans hA2) Tryz.underlying4 (by kernel_rfl), by rw [HRUN.out], taken_below hB2 (by omega)⟩
  · rw [List.take_length] at hx
    have hrun : s.vw.sndRun bucket ⟨[], [], [], 0⟩ (s.chain bucket) = true := by rw [sndRun_st, hx]; rfl
    have HRUN := Lib.hid hrun
    clear hrun
    refine ⟨_, rfl, L, hC.loop, (by rw [hs]; intro e; cases e), ?_⟩
    have P2 := hC.put (L' := { L with state := .exhausted }) (by omega) (by omega) (by omega)
    generalize putLoop w' (w5.heap.size + 1) { L with state := .exhausted } = W2 at *
    have HPP := Lib.hid P2
    have HPE := Lib.hid hp
    clear hC P2 hp hs hpa c2 c3 q0 q1 zcb hx
    rw [HPE.out]
    dsimp only
    go_wp2_with (refine wpl_st rfl 4 _ _ rfl #[.bool true] rfl _ rfl HPP.out.p4 (by kernel_rfl) rfl rfl rfl ?_; intro wy A4 O4; have TTT := True.intro)
    have hm2 := heap_only HPP.out.mark O4 (by show ¬ w5.heap.size = w.heap.size + 1 + 1; omega)
    have hB2 := HPP.out.below.trans (O4.below HPP.out.below.size fun i hi e => by have e' : i = w.heap.size + 1 + 1 := e; omega)
    exact ⟨[w5.heap.size], rfl, ⟨by simp, by simpa using hm2⟩, _, res_one (fn := Tryz.f94) rfl _ _ (w.heap.size + 1 + 1) 4 true rfl ((taken_heap _ _ _ (by omega)).trans A4) Tryz.underlying4 (by kernel_rfl), by rw [HRUN.out], taken_below hB2 (by omega)⟩

end Go.Proofs.YtccmjljlfgbicaaGreat

/- Contract of look.Sound. -/
namespace Go.Proofs.YtccmjljlfgbicaaGreat
open Go.ChangeShapes Go.WideShapes Go.ChangeAt Go.RowKit

/-- Is a bucket sound? -/
def St.sound1 (s : St) (b : Int) : Bool := s.vw.sndRun b ⟨[], [], [], 0⟩ (s.chain b)
/-- Are so many buckets? -/
def St.soundTo (s : St) (n : Nat) : Bool := (List.range n).all fun b => s.sound1 (b : Int)
def St.sound (s : St) : Bool := s.soundTo s.c.buckets.toNat
theorem St.soundTo_succ (s : St) (n : Nat) : s.soundTo (n + 1) = (s.soundTo n && s.sound1 (n : Int)) := by
  unfold St.soundTo
  rw [List.range_succ, List.all_append]
  simp
theorem St.soundTo_no {s : St} {i n : Nat} (h : i < n) (hs : s.sound1 (i : Int) = false) : s.soundTo n = false := by
  unfold St.soundTo
  rw [List.all_eq_false]
  exact ⟨i, List.mem_range.2 h, by rw [hs]; decide⟩
theorem St.sound_one {s : St} (h : s.c.buckets = 1) : s.sound = s.sound1 0 := by
  unfold St.sound
  rw [h]
  show s.soundTo 1 = _
  rw [St.soundTo_succ]
  rfl

set_option maxRecDepth 100000 in
set_option maxHeartbeats 2000000 in
theorem lSound_any {k : Blks} {s : St} (w : World) (h : Holds k s w) :
    Calls Tryz.prog 34 #[.pointer (some ⟨k.bw, 0, none⟩)] w fun e w' => e = .returned (.bool s.sound) ∧ Below w.heap.size w w' := by
  obtain ⟨⟨g0, g1, g2, g3, g4⟩, g5, g6, gl⟩ := h.wfacts
  have hmb := may_bounds h.ok.may
  obtain ⟨n, hn⟩ : ∃ n : Nat, s.c.buckets = n := ⟨s.c.buckets.toNat, by omega⟩
  have HN := Lib.hid hn
  have H := Lib.hid h
  have HSN := Lib.hid (show s.sound = s.soundTo n by unfold St.sound; rw [hn]; rfl)
  rw [hn] at g1
  have hn9 : n ≤ 100000 := by omega
  clear hn hmb h g0 g2 g3 g4 g5 g6
  go_enter Tryz.func34, Tryz.ntmps34
  go_wp2_with fail
  go_loopg [11] n (fun gg v11 wr => ∃ i : Nat, v11 = .int .i64 i ∧ i + gg = n ∧ s.soundTo i = true ∧ Below w.heap.size w wr)
  case atStart => exact ⟨0, rfl, by omega, rfl, Below.refl _ _⟩
  case round =>
    obtain ⟨i, rfl, hi, hs, hb⟩ := hrel
    have HSI := Lib.hid hs
    clear hs
    by_cases hlt : i < n
    · cases hq : s.sound1 (i : Int) with
      | true =>
        have HQ := Lib.hid hq
        clear hq
        go_wp2_with (go_at_call 94; refine (lsound_any (i : Int) wr (H.out.below hb)).mono ?_; rintro e w1 ⟨rfl, hb1⟩; rw [show s.vw.sndRun (i : Int) ⟨[], [], [], 0⟩ (s.chain (i : Int)) = true from HQ.out])
        go_roundg (n - (i + 1))
        case measure => omega
        case rel => exact ⟨i + 1, rfl, by omega, by rw [St.soundTo_succ, HSI.out, HQ.out]; rfl, hb.trans (hb1.mono hb.size)⟩
      | false =>
        have HQ := Lib.hid hq
        clear hq
        go_wp2_with (go_at_call 94; refine (lsound_any (i : Int) wr (H.out.below hb)).mono ?_; rintro e w1 ⟨rfl, hb1⟩; rw [show s.vw.sndRun (i : Int) ⟨[], [], [], 0⟩ (s.chain (i : Int)) = false from HQ.out])
        go_ret
        rw [HSN.out, St.soundTo_no hlt HQ.out]
        exact ⟨rfl, hb.trans (hb1.mono hb.size)⟩
    · have e : i = n := by omega
      subst e
      go_wp2_with fail
      go_ret
      rw [HSN.out, HSI.out]
      exact ⟨rfl, hb⟩

set_option maxRecDepth 100000 in
theorem lSound_nil (w : World) : Calls Tryz.prog 34 #[.pointer none] w fun e w' => e = .returned (.bool false) ∧ Below w.heap.size w w' := by
  go_enter Tryz.func34, Tryz.ntmps34
  go_wp2_with fail
  go_ret
  exact ⟨rfl, Below.refl _ _⟩
end Go.Proofs.YtccmjljlfgbicaaGreat

