/- Contracts of merge, where there is one list: its iterator. -/
import Derived.Test.YtccmjljlfgbicaaGreatZScn
import Derived.Test.YtccmjljlfgbicaaGreatRange
import Derived.LoopN
import Derived.Test.YtccmjljlfgbicaaGreatReg
import Derived.Test.YtccmjljlfgbicaaGreatOutG
import Derived.Test.YtccmjljlfgbicaaGreatZLkA
import Derived.Test.YtccmjljlfgbicaaGreatRegL
namespace Go.Proofs.YtccmjljlfgbicaaGreat
open Go.ChangeShapes Go.WideShapes Go.ChangeAt Go.RowKit

theorem less_any (a b : Int × Int) (w : World) :
    Calls Tryz.prog 187 #[.agg #[.int .u64 a.1, .int .u64 a.2], .agg #[.int .u64 b.1, .int .u64 b.2]] w fun e w' => e = .returned (.bool (decide (a.1 < b.1))) ∧ Below w.heap.size w w' := by
  go_enter Tryz.func187, Tryz.ntmps187
  go_wp2
  go_ret
  exact ⟨rfl, below2 _ _⟩

set_option maxRecDepth 100000 in
set_option maxHeartbeats 2000000 in
theorem left1_any {l : List (Int × Int)} {N : Nat → Prop} {pv : Value} (cl ca ll bl ol lc ba m : Nat) (w : World) (R : World → Prop)
    (q0 : w.cell? ⟨cl, 0, none⟩ = some (.slice (some ⟨bl, ol, none⟩) 1 lc)) (q1 : w.cell? ⟨bl, ol, none⟩ = some pv) (hp : PairsIn w N pv l) (q2 : w.cell? ⟨ca, 0, none⟩ = some (.slice (some ⟨ba, 0, none⟩) 1 1)) (q3 : w.cell? ⟨ba, 0, none⟩ = some (.int .i64 m))
    (hl : l.length ≤ 100000) (hY : ∀ p, l[m]? = some p → YieldsTo Tryz.prog ll #[.int .i64 0, .agg #[.int .u64 p.1, .int .u64 p.2]] w fun _ w2 => R w2) (h0 : l.length ≤ m → R w) :
    Calls Tryz.prog 208 #[.func (.yield ll) #[] #[], .pointer (some ⟨cl, 0, none⟩), .pointer (some ⟨ca, 0, none⟩)] w fun e w' => e = .returned (.tuple #[]) ∧ R w' := by
  by_cases hm : m < l.length
  · obtain ⟨p, hpm⟩ : ∃ p, l[m]? = some p := ⟨_, List.getElem?_eq_getElem hm⟩
    obtain ⟨u0, u1⟩ := pairsV_get hpm
    rcases hp with ⟨rfl, _⟩ | ⟨b, o, cap, rfl, h2, h3, h4, h5⟩
    · cases hpm
    have c0 := h5 _ _ u0
    have c1 := h5 _ _ u1
    rw [← Nat.add_assoc] at c1
    have hm1 : (m : Int) < l.length := by omega
    have HY := Lib.hid (hY p hpm)
    clear h2 h3 h4 h5 h0 hY u0 u1 hpm
    go_enter Tryz.func208, Tryz.ntmps208
    go_wp2_with fail
    refine wp_loop_rounds 2 ?_
    rw [rounds_succ]
    go_upto_region 3 with fail
    refine wp_region_yield_k (l1 := [_, _, _, _, _, _, _, _, _, _, _, _, _, _, _, _, _]) (l2 := [_, _]) ?_
    intro K hK
    go_wp2_with fail
    refine wpListY_call (l := ll) (vs := #[.int .i64 0, .agg #[.int .u64 p.1, .int .u64 p.2]]) (by rfl) rfl rfl (by simp [Act.eval]) ?_
    refine HY.out.mono ?_
    rintro bb w7 hR
    refine wpListY_last (onlyN_tight _) _ ?_
    cases bb
    · go_wp2_with fail
      refine ⟨rfl, ?_⟩
      go_wp2_with fail
      refine bodyPost_ret (results_none rfl _ _ _) rfl ?_
      exact ⟨rfl, hR⟩
    · go_wp2_with fail
      refine ⟨rfl, ?_⟩
      go_wp2_with fail
      rw [rounds_succ]
      go_wp2_with fail
      go_end0
      exact ⟨rfl, hR⟩
  · have hR := h0 (by omega)
    have hm1 : ¬ (m : Int) < l.length := by omega
    obtain ⟨ao, cap, rfl⟩ : ∃ ao cap, pv = .slice ao l.length cap := by
      rcases hp with ⟨rfl, ao, cap, rfl⟩ | ⟨b, o, cap, rfl, _⟩
      · exact ⟨ao, cap, rfl⟩
      · exact ⟨_, cap, rfl⟩
    clear hY h0 hp
    go_enter Tryz.func208, Tryz.ntmps208
    go_wp2_with fail
    refine wp_loop_rounds 2 ?_
    rw [rounds_succ]
    go_upto_region 3 with fail
    refine wp_region_yield_k (l1 := [_, _, _, _, _, _, _, _, _, _, _, _, _, _, _, _, _]) (l2 := [_, _]) ?_
    intro K hK
    go_wp2_with fail
    refine wpListY_skip (by rfl) ?_
    refine wpListY_last (onlyN_tight _) _ ?_
    go_wp2_with fail
    refine ⟨rfl, ?_⟩
    go_wp2_with fail
    rw [rounds_succ]
    go_wp2_with fail
    go_end0
    exact ⟨rfl, hR⟩
end Go.Proofs.YtccmjljlfgbicaaGreat

/- A region that draws its order, in a round of a loop: one obligation for each operation. Over any program. -/
namespace Go.Proofs.YtccmjljlfgbicaaGreat
open Go.RowKit

section
variable {P : Program}
theorem wpR_region_J {l' : Nat} {id : Nat} {Q : Exit → Act → World → Prop} {a : Act} {w : World} {l : List Oper} (G : (Nat → Bool) → (Nat → Value) → World → Prop) (hm : P.follows .mixedOrders = true) (hB : (dstsOk l && inTs l a.tmps.size && acyc l 0) = true) (hq : l.all Oper.quits = true)
    (h0 : ∀ us, G (fun _ => false) us w.drew) (hop : EachJ P l (onlyN (Q .normal)) a G l 0) (hend : ∀ dn us w', G dn us w' → (∀ i, i < l.length → dn i = true) → Q .normal (fillA l us a) w') : wpR P l' (.region id l.toArray true) Q a w := by
  refine wpR_mono (wpR_region_draw (Q := onlyN (Q .normal)) (by simpa using (List.all_eq_true.1 hq)) (onlyN_tight _) ?_) ?_
  case refine_2 => rintro e a' w' ⟨rfl, h⟩; exact h
  intro t
  simp only [Region.schedule, hm, Bool.true_or, if_true]
  refine wpAny_sound _ t _ a _ ?_
  simp only [Bool.and_eq_true] at hB
  obtain ⟨⟨hd, hb⟩, hc⟩ := hB
  replace hend : ∀ dn us w', G dn us w' → (∀ i, i < l.length → dn i = true) → onlyN (Q .normal) .normal (fillA l us a) w' := fun dn us w' h1 h2 => ⟨rfl, hend dn us w' h1 h2⟩
  have hself : fillA l (fun j => match (l[j]?).bind (·.dst) with | some d => a.tmps.getD d undef | none => undef) a = a := by
    unfold fillA
    rw [fillT_self]
    intro j o d h1 h2
    simp [h1, h2]
  rw [← hself]
  refine wpAny_J (G := G) hd (fun i o ho e he hbd => by have := acyc_get hc ho e he hbd; omega) ?_ hend _ _ _ _ (by simp) ?_ ?_
  · intro i o ho dn us w1 hG hdn hdep
    have hO := hop.get ho dn us w1 (fillA l us a) (fill_eval hd hb) (fill_yielded hd hb) hG (by rw [Nat.zero_add]; exact hdn) (allD_of fun j hj => by
      obtain ⟨e, he, h2⟩ := List.mem_filterMap.1 hj
      split at h2
      · rename_i hbd
        injection h2 with h2
        rw [← h2]
        exact hdep e (by simpa using he) hbd
      · cases h2) (fun a' w' => ∃ v, a' = (fillA l us a).put o.dst v ∧ G (updB dn i) (updN us i v) w') (fun v w' hg => ⟨v, rfl, by rw [Nat.zero_add] at hg; exact hg⟩)
    unfold wpOp
    rw [show l.toArray[i]? = some o by simpa using ho]
    dsimp only
    split at hO
    · rename_i hw; rw [if_pos hw]; exact .inl hO
    · rename_i hw; rw [if_neg hw]; exact hO
  · unfold unl
    exact Nat.le_trans List.countP_le_length (by simp)
  · have e : (fun i => (Array.replicate l.toArray.size false).getD i false) = fun _ => false := by
      funext i
      by_cases hi : i < l.toArray.size
      · simp [Array.getD, Array.size_replicate]
      · simp [Array.getD, Array.size_replicate]
    rw [e]
    exact h0 _

end
end Go.Proofs.YtccmjljlfgbicaaGreat

/- Contract of merge.Pairs, where there is one list. Printed by mrggen.py. -/
namespace Go.Proofs.YtccmjljlfgbicaaGreat
open Go.ChangeShapes Go.WideShapes Go.ChangeAt Go.RowKit

theorem yieldsTo_two {P : Program} {l : Nat} {L : Loop} {t u : Tmp} {x y : Value} {w : World} {R : Bool → World → Prop} (h : LoopAt w l L) (hp : L.params = #[t, u])
    (hr : wpR P l L.assign (fun e a w1 => e = .normal ∧ ∃ L', LoopAt w1 l L' ∧ L'.state = .ready ∧ wpR P l L.body (roundPost l R) a (putLoop w1 l { L' with state := .busy })) { tmps := (L.tmps.setIfInBounds t x).setIfInBounds u y, defers := [] } w) : YieldsTo P l #[x, y] w R := by
  refine ⟨L, h, by rw [hp]; rfl, ?_⟩
  rw [hp]
  have e : (#[t, u].zip #[x, y]).foldl (fun (tmps : Array Value) (p : Tmp × Value) => match p with | (t, a) => tmps.setIfInBounds t a) L.tmps = (L.tmps.setIfInBounds t x).setIfInBounds u y := by simp
  rw [e]
  exact rounds_of_wp hr
theorem left_any (bl ol lc ba : Nat) (w : World) :
    Calls Tryz.prog 203 #[.slice (some ⟨bl, ol, none⟩) 1 lc, .slice (some ⟨ba, 0, none⟩) 1 1] w
      fun e w' => e = .returned (.func (.func 208) #[] #[.pointer (some ⟨w.heap.size, 0, none⟩), .pointer (some ⟨w.heap.size + 1, 0, none⟩)]) ∧
        w'.cell? ⟨w.heap.size, 0, none⟩ = some (.slice (some ⟨bl, ol, none⟩) 1 lc) ∧ w'.cell? ⟨w.heap.size + 1, 0, none⟩ = some (.slice (some ⟨ba, 0, none⟩) 1 1) ∧ Below w.heap.size w w' := by
  go_enter Tryz.func203, Tryz.ntmps203
  go_wp2
  go_ret
  refine ⟨?_, ?_, ?_, below2 _ _⟩
  · rfl
  · go_simp
  · go_simp
theorem made_one (v : Value) : madeCells #[v] 1 = #[v] := by
  simp [madeCells]
  exact ⟨0, rfl, rfl⟩
theorem pairinfoM : (Tryz.prog.info? 103).map (fun i => (i.zero, i.size, i.bytes)) = some (some (.agg #[.int .u64 0, .int .u64 0]), 2, 16) := by kernel_rfl

structure MInv (w0 : World) (l : List (Int × Int)) (i : Nat) (v : Value) (rs : List Nat) (w : World) : Prop where
  below : Below w0.heap.size w0 w
  at_ : At w (w0.heap.size + 1) 3 #[.int .i64 i]
  row : w.ownsRow (w0.heap.size + 2) 103 2 v i (pairsV (l.take i))
  marks : Marks rs w
  low : ∀ r ∈ rs, w0.heap.size ≤ r
theorem Marks.below {rs : List Nat} {w w' : World} (h : Marks rs w) (hb : Below w.heap.size w w') : Marks rs w' := ⟨h.1, fun r hr => heap_below (h.2 r hr) hb⟩
theorem MInv.still {w0 w w' : World} {l : List (Int × Int)} {i : Nat} {v : Value} {rs : List Nat} (h : MInv w0 l i v rs w) (hb : Below w.heap.size w w') : MInv w0 l i v rs w' :=
  ⟨h.below.trans (hb.mono h.below.size), h.at_.below' hb, ownsRow_below h.row hb rfl, h.marks.below hb, h.low⟩
theorem takenAll_below {B : Nat} {a : World} : ∀ (rs : List Nat) (w : World), Below B a w → (∀ r ∈ rs, B ≤ r) → Below B a (takenAll rs w)
  | [], _, h, _ => h
  | r :: rs, _, h, hr => takenAll_below rs _ (taken_below h (hr r (.head _))) fun x hx => hr x (.tail _ hx)
theorem takenAll_row {base : Nat} {e : TypeId} {size : Nat} {v : Value} {n : Nat} {xs : List Value} : ∀ (rs : List Nat) (w : World), w.ownsRow base e size v n xs → Marks rs w → (takenAll rs w).ownsRow base e size v n xs
  | [], _, h, _ => h
  | r :: rs, w, h, hm => by
    refine takenAll_row rs _ ?_ ⟨(List.nodup_cons.1 hm.1).2, fun x hx => ?_⟩
    · refine ⟨h.1, h.2.imp id ?_⟩
      rintro ⟨g, cap, cur, h1, h2, h3, h4⟩
      refine ⟨g, cap, cur, h1, h2, (taken_heap w r g ?_).trans h3, h4⟩
      rintro rfl
      have := hm.2 g (.head _)
      rw [h3] at this
      cases this
    · rw [taken_heap w r x fun e => (List.nodup_cons.1 hm.1).1 (e ▸ hx)]
      exact hm.2 x (.tail _ hx)
theorem MInv.next {w0 W2 W3 w3 : World} {l : List (Int × Int)} {i : Nat} {v v' : Value} {rs : List Nat} {p : Int × Int} {r : Nat} {o : Obj} (h : MInv w0 l i v rs W2) (hO : Only (fun j => j = w0.heap.size + 1) W2 W3) (hA : At W3 (w0.heap.size + 1) 3 #[.int .i64 ((i + 1 : Nat) : Int)])
    (hg : (W3.alloc o).grownBy w3 v.ownBlock) (hR : w3.ownsRow (w0.heap.size + 2) 103 2 v' (i + 1) (pairsV (l.take i) ++ [.int .u64 p.1, .int .u64 p.2])) (hp : l[i]? = some p) (hm : W2.heap[r]? = some (.deferred (some []))) (hr : r ∉ rs) (hr0 : w0.heap.size ≤ r) : MInv w0 l (i + 1) v' (r :: rs) w3 := by
  have R3 := ownsRow_onlyB h.row hO (fun i hi e => by have e' : i = w0.heap.size + 1 := e; omega)
  have keep : ∀ j, j < W3.heap.size → some j ≠ v.ownBlock → w3.heap[j]? = W3.heap[j]? := fun j hj hn => (hg.block j (by rw [World.size_alloc]; omega) hn).trans (Below.heap_alloc W3 _ j hj)
  have hdef : ∀ r' : Nat, W2.heap[r']? = some (Obj.deferred (some [])) → w3.heap[r']? = some (Obj.deferred (some [])) := by
    intro r' h'
    have h1 : W3.heap[r']? = some (.deferred (some [])) := heap_only h' hO (by
      intro e
      have e' : r' = w0.heap.size + 1 := e
      have := h.at_
      unfold At at this
      rw [← e', h'] at this
      cases this)
    have hlt : r' < W3.heap.size := by
      rcases Nat.lt_or_ge r' W3.heap.size with q | q
      · exact q
      · rw [Array.getElem?_eq_none q] at h1; cases h1
    refine (keep r' hlt fun e => ?_).trans h1
    rcases R3.2 with ⟨rfl, _⟩ | ⟨g, cap, cur, rfl, _, h3, _⟩
    · cases e
    · have e' : r' = g := Option.some.inj e
      rw [← e', h1] at h3
      cases h3
  have hz := h.below.size
  have h3 := hO.size
  have hz3 : W3.heap.size ≤ w3.heap.size := by have := hg.size; rw [World.size_alloc] at this; omega
  refine ⟨⟨(hg.os.trans hO.os).trans h.below.os, (hg.tape.trans hO.tape).trans h.below.tape, (hg.output.trans hO.output).trans h.below.output, by omega, fun j hj => ?_⟩, ?_, ?_, ⟨List.nodup_cons.2 ⟨hr, h.marks.1⟩, fun x hx => ?_⟩, fun x hx => ?_⟩
  · exact (keep j (by omega) (own_ne R3 (by omega))).trans ((hO.block j (by omega) (by intro e; have e' : j = w0.heap.size + 1 := e; omega)).trans (h.below.block j hj))
  · exact (keep _ hA.lt (own_ne R3 (by omega))).trans hA
  · rw [List.take_add_one, hp, pairsV_append]; exact hR
  · rcases List.mem_cons.1 hx with rfl | hx
    · exact hdef _ hm
    · exact hdef _ (h.marks.2 x hx)
  · rcases List.mem_cons.1 hx with rfl | hx
    · exact hr0
    · exact h.low x hx
structure MR (w : World) (lb lm g9 g10 : Nat) (p : Int × Int) (L : Loop) (w2 : World) : Prop where
  loop : LoopAt w2 lb L
  mark : w2.heap[lm]? = some (.deferred (some []))
  b9 : At w2 g9 3 #[.int .i64 0]
  b10 : At w2 g10 103 #[.int .u64 p.1, .int .u64 p.2]
  below : Below w.heap.size w w2

set_option maxRecDepth 100000 in
set_option maxHeartbeats 4000000 in
theorem all_any {l : List (Int × Int)} {N : Nat → Prop} {pv : Value} (bl ol lc : Nat) (lim : Int) (w : World) (q1 : w.cell? ⟨bl, ol, none⟩ = some pv) (hp : PairsIn w N pv l) (hl : l.length ≤ 100000) :
    Calls Tryz.prog 186 #[.slice (some ⟨bl, ol, none⟩) 1 lc, .func (.func 187) #[] #[], .int .i64 lim] w fun e w' => ∃ v n, e = .returned v ∧ w'.ownsRow (w.heap.size + 2) 103 2 v n (pairsV (l.take lim.toNat)) ∧ Below w.heap.size w w' := by
  have lq := World.block_lt_of_cell? w _ q1
  have HP := Lib.hid hp
  have HQ := Lib.hid q1
  obtain ⟨i0, hi, hz0, hz1, hz2⟩ := info_parts pairinfoM
  clear hp q1
  refine callsC_of_wp Tryz.func186 rfl ?_
  simp only [Tryz.ntmps186, List.size_toArray, List.length_cons, List.length_nil, Nat.reduceAdd, Nat.reduceSub, Array.replicate_succ, Array.replicate_zero, List.push_toArray, List.append_toArray, List.nil_append, List.cons_append]
  obtain ⟨ii, hii, hiz0, hiz1, hiz2⟩ := info_parts intinfo
  have hrun := fun W => run_make (P := Tryz.prog) W 39 3 ii (.int .i64 0) Tryz.underlying39 hii hiz0 .i64 .i64 1 1 (by decide) (by decide) (by rw [hiz2]; decide) (by decide)
  go_wp2_with (rw [hrun])
  have A0 : At ((w.alloc (.cells #[.func (.func 187) #[] #[]] 231)).alloc (.cells (madeCells #[.int .i64 0] 1) 3)) (w.heap.size + 1) 3 #[.int .i64 (0 : Nat)] := cells_at (At.new1 w (.cells #[.func (.func 187) #[] #[]] 231) 3 (madeCells #[.int .i64 0] 1)) (made_one _)
  have D0 := below_twice w (.cells #[.func (.func 187) #[] #[]] 231) (.cells (madeCells #[.int .i64 0] 1) 3)
  generalize (w.alloc (.cells #[.func (.func 187) #[] #[]] 231)).alloc (.cells (madeCells #[.int .i64 0] 1) 3) = w1 at *
  have hst : MInv w l 0 (.slice none 0 0) [] w1 := ⟨D0, A0, World.ownsRow_nil _ _ _ _, ⟨List.nodup_nil, by simp⟩, by simp⟩
  clear hrun hii hiz0 hiz1 hiz2 A0 D0
  refine wp_loop_ghost_k (fun g a wr => ∃ (u9 u10 u16 u17 u18 u19 u20 u21 u22 u35 u36 u37 u38 u39 u40 u41 u42 u43 u44 u45 u46 ov : Value) (rs : List Nat) (i : Nat), a = ⟨#[.slice (some ⟨bl, ol, none⟩) 1 lc, .func (.func 187) #[] #[], .int .i64 lim, undef, .pointer (some ⟨w.heap.size, 0, none⟩), undef, .slice none 0 0, .slice (some ⟨w.heap.size + 1, 0, none⟩) 1 1, ov, u9, u10, undef, undef, .slice (some ⟨bl, ol, none⟩) 1 lc, .int .i64 1, .slice (some ⟨w.heap.size + 1, 0, none⟩) 1 1, u16, u17, u18, u19, u20, u21, u22, undef, undef, undef, undef, undef, undef, undef, undef, undef, undef, undef, undef, u35, u36, u37, u38, u39, u40, u41, u42, u43, u44, u45, u46, undef], rs.map markOfLoop⟩ ∧ i + g = l.length + 1 ∧ i ≤ lim.toNat ∧ MInv w l i ov rs wr) (l.length + 1) ⟨undef, undef, undef, undef, undef, undef, undef, undef, undef, undef, undef, undef, undef, undef, undef, undef, undef, undef, undef, undef, undef, .slice none 0 0, [], 0, rfl, by omega, by omega, hst⟩ ?_
  rintro gk a wr ⟨u9, u10, u16, u17, u18, u19, u20, u21, u22, u35, u36, u37, u38, u39, u40, u41, u42, u43, u44, u45, u46, ov, rs, i, rfl, hig, hlim, hC⟩ J K hJ hK
  clear hst
  dsimp only
  obtain ⟨ao, oc, rfl⟩ : ∃ ao oc, ov = .slice ao i oc := by
    rcases hC.row.2 with ⟨rfl, rfl⟩ | ⟨g, cap, cur, rfl, _⟩
    · exact ⟨_, _, rfl⟩
    · exact ⟨_, _, rfl⟩
  have HC := Lib.hid hC
  have HJ := Lib.hid hJ
  have HK := Lib.hid hK
  clear hC hJ hK
  have hend : ∀ rs wz, MInv w l i (.slice ao i oc) rs wz → l.take lim.toNat = l.take i → ∃ rs', rs.map markOfLoop = rs'.map markOfLoop ∧ Marks rs' wz ∧ (takenAll rs' wz).ownsRow (w.heap.size + 2) 103 2 (.slice ao i oc) i (pairsV (l.take lim.toNat)) ∧ Below w.heap.size w (takenAll rs' wz) :=
    fun rs wz hC he => ⟨rs, rfl, hC.marks, by rw [he]; exact takenAll_row rs wz hC.row hC.marks, takenAll_below rs wz hC.below hC.low⟩
  have HE := Lib.hid hend
  clear hend
  by_cases hc : (i : Int) < lim
  case neg =>
    have he : l.take lim.toNat = l.take i := by rw [show lim.toNat = i by omega]
    have HTK := Lib.hid he
    clear he hlim hig
    go_wp2_with fail
    obtain ⟨rs', e1, e2, e3, e4⟩ := HE.out rs wr HC.out HTK.out
    refine ⟨rs', e1, e2, _, results_tmp rfl _ _ _, _, rfl, ⟨i, ?_⟩, e4⟩
    exact e3
  case pos =>
    have hig' := Lib.hid hig
    have hlim' := Lib.hid hlim
    have hc' := Lib.hid hc
    have zr := HC.out.below.size
    have A9 := (At.new wr 3 #[.int .i64 (-1)]).alloc (.cells #[.int .u64 0, .int .u64 0] 103)
    have A10 := At.new1 wr (.cells #[.int .i64 (-1)] 3) 103 #[.int .u64 0, .int .u64 0]
    have DA := below_twice wr (.cells #[.int .i64 (-1)] 3) (.cells #[.int .u64 0, .int .u64 0] 103)
    have zA : ((wr.alloc (.cells #[.int .i64 (-1)] 3)).alloc (.cells #[.int .u64 0, .int .u64 0] 103)).heap.size = wr.heap.size + 1 + 1 := by simp
    clear hig hlim
    go_upto_region 6 with fail
    have ZA := Lib.hid zA
    clear zA
    generalize (wr.alloc (.cells #[.int .i64 (-1)] 3)).alloc (.cells #[.int .u64 0, .int .u64 0] 103) = wA at *
    go_wp2_with (go_at_call 203; refine (left_any bl ol lc (w.heap.size + 1) wA).mono ?_; rintro e w5 ⟨rfl, q0, q1, hb5⟩)
    refine wp_rangeFunc_new (g := 208) rfl Tryz.func208 rfl rfl ?_
    intro fn W1 L hL f1 f2 f3
    have z5 := hb5.size
    have zA := ZA.out
    have D5 : Below wr.heap.size wr W1 := DA.trans ((hb5.trans (f3.mono hb5.size)).mono DA.size)
    have C1 := HC.out.still D5
    have hs : L.state = .ready := by rw [hL]; rfl
    have hp : L.pending = none := by rw [hL]; rfl
    have hpa : L.params = #[23, 24] := by rw [hL]; rfl
    have HL := Lib.hid hL
    clear hL
    have l0 := World.block_lt_of_cell? w5 _ q0
    have l1 := World.block_lt_of_cell? w5 _ q1
    have E9 := (A9.below' hb5).below' f3
    have E10 := (A10.below' hb5).below' f3
    clear A9 A10 DA
    have hm5 : (pairsV l).length = l.length * 2 := pairsV_len l
    by_cases hil : i < l.length
    · obtain ⟨p, hpi⟩ : ∃ p, l[i]? = some p := ⟨_, List.getElem?_eq_getElem hil⟩
      have k0 : W1.cell? ⟨wA.heap.size, 0, none⟩ = some (.slice (some ⟨bl, ol, none⟩) 1 lc) := by rw [f3.cell l0]; exact q0
      have k1 : W1.cell? ⟨bl, ol, none⟩ = some pv := by rw [C1.below.cell lq]; exact HQ.out
      have k2 : W1.cell? ⟨wA.heap.size + 1, 0, none⟩ = some (.slice (some ⟨w.heap.size + 1, 0, none⟩) 1 1) := by rw [f3.cell l1]; exact q1
      have k3 : W1.cell? ⟨w.heap.size + 1, 0, none⟩ = some (.int .i64 i) := C1.at_.cell 0
      have kp := HP.out.below C1.below
      have kn : l.length ≤ i → MR wr (w5.heap.size + 1) w5.heap.size wr.heap.size (wr.heap.size + 1) p L W1 := fun e => by omega
      have hY : ∀ p', l[i]? = some p' → YieldsTo Tryz.prog (w5.heap.size + 1) #[.int .i64 0, .agg #[.int .u64 p'.1, .int .u64 p'.2]] W1 fun _ w2 => MR wr (w5.heap.size + 1) w5.heap.size wr.heap.size (wr.heap.size + 1) p L w2 := by
        intro p' hp'
        obtain rfl : p' = p := by rw [hpi] at hp'; exact (Option.some.inj hp').symm
        refine yieldsTo_two f1 hpa ?_
        have ea := congrArg Loop.assign HL.out
        have eb := congrArg Loop.body HL.out
        have et := congrArg Loop.tmps HL.out
        rw [ea, eb, et]
        clear ea eb et
        simp only [newLoop, List.setIfInBounds_toArray, List.set_cons_succ, List.set_cons_zero]
        refine wpR_seq_k fun K1 hK1 => ?_
        refine wpR_region_lit rfl ?_
        go_wp2_with fail
        refine ⟨rfl, hK1 _ _ ?_⟩
        refine wpR_region_lit rfl ?_
        go_wp2_with (refine wpl_st rfl 103 _ _ rfl #[.int .u64 p'.1, .int .u64 p'.2] rfl _ rfl (At.new W1 _ _) (by kernel_rfl) rfl rfl rfl ?_; intro wB A12 O12)
        have DB : Below W1.heap.size W1 wB := ((Below.refl _ W1).alloc (Nat.le_refl _) _).trans (O12.below (by simp) fun j hj e => by have e' : j = W1.heap.size := e; omega)
        have zW := f1.lt
        have zl : w5.heap.size + 1 < wB.heap.size := by have := DB.size; omega
        have LB : LoopAt wB (w5.heap.size + 1) L := heap_below f1 DB
        refine ⟨rfl, L, LB, hs, ?_⟩
        have b9 : At (putLoop wB (w5.heap.size + 1) { L with state := .busy }) wr.heap.size 3 #[.int .i64 (-1)] := (putLoop_heap _ _ _ _ (by omega)).trans (E9.below' DB)
        have b10 : At (putLoop wB (w5.heap.size + 1) { L with state := .busy }) (wr.heap.size + 1) 103 #[.int .u64 0, .int .u64 0] := (putLoop_heap _ _ _ _ (by omega)).trans (E10.below' DB)
        have B12 : At (putLoop wB (w5.heap.size + 1) { L with state := .busy }) W1.heap.size 103 #[.int .u64 p'.1, .int .u64 p'.2] := (putLoop_heap _ _ _ _ (by omega)).trans A12
        have mk := (putLoop_heap wB (w5.heap.size + 1) { L with state := .busy } w5.heap.size (by omega)).trans (heap_below f2 DB)
        have D2 : Below wr.heap.size wr (putLoop wB (w5.heap.size + 1) { L with state := .busy }) := putLoop_below (D5.trans (DB.mono D5.size)) (by omega) _
        have L2 := putLoop_at zl { L with state := .busy }
        have c9 : (putLoop wB (w5.heap.size + 1) { L with state := .busy }).cell? ⟨wr.heap.size, 0, none⟩ = some (.int .i64 (-1)) := b9.cell 0
        clear LB A12 O12 DB f1 f2 f3 D5 C1 E9 E10 kn kp k0 k1 k2 k3 q0 q1 hp' hpi
        generalize putLoop wB (w5.heap.size + 1) { L with state := .busy } = W2 at *
        have n910 : wr.heap.size ≠ wr.heap.size + 1 := by omega
        refine wpR_block ?_
        refine wpR_seq_k fun K2 hK2 => ?_
        refine wpR_region_lit rfl ?_
        go_wp2_with fail
        refine ⟨rfl, hK2 _ _ ?_⟩
        refine wpR_cond (t := true) rfl ?_
        refine wpR_region_J (l := [_, _, _, _]) (OutG 2 3 3 103 (wr.heap.size) (wr.heap.size + 1) #[.int .i64 (-1)] #[.int .i64 0] #[.int .u64 0, .int .u64 0] #[.int .u64 p'.1, .int .u64 p'.2] (fun j v => match j with | 0 => v = .int .i64 0 | 1 => v = .agg #[.int .u64 p'.1, .int .u64 p'.2] | _ => True) W2.drew) (by kernel_rfl) (by kernel_rfl) (by rfl) (fun us => OutG.start us b9.drew b10.drew) ⟨?_, ?_, ?_, ?_, trivial⟩ ?_
        · intro dn us w6 A hev hy hG hdn hdep K hK
          have e0 : A.eval (.tmp 11) = .int .i64 0 := by rw [hev]; rfl
          rw [if_pos (by rfl)]; unfold Oper.wp execOp; generalize A.eval = ev at e0 ⊢; go_simp; exact hK _ _ (hG.first (by decide) (by decide) (by first | rfl | simp | (simp; omega)))
        · intro dn us w6 A hev hy hG hdn hdep K hK
          have e0 : A.eval (.tmp 12) = .pointer (some ⟨W1.heap.size, 0, none⟩) := by rw [hev]; rfl
          refine step_list (wpl_ld rfl 103 (.tmp 12) rfl #[.int .u64 p'.1, .int .u64 p'.2] e0 _ (B12.drew.only hG.only (by show ¬ (_ = _ ∨ _ = _); omega)) Tryz.underlying103 rfl (by kernel_rfl) rfl ⟨rfl, ?_⟩)
          exact hK _ _ (hG.first (by decide) (by decide) rfl)
        · intro dn us w6 A hev hy hG hdn hdep K hK
          have d0 : dn 0 = true := allD_mem hdep (by decide)
          have e0 : A.eval (.tmp 9) = .pointer (some ⟨wr.heap.size, 0, none⟩) := by rw [hev]; rfl
          have e1 : A.eval (.tmp 33) = .int .i64 0 := by rw [hev]; exact hG.pre 0 (by decide) (by decide) d0
          refine step_list (wpl_st rfl 3 (.tmp 9) (.tmp 33) rfl #[.int .i64 0] e0 _ e1 (hG.old0 hdn) (by kernel_rfl) rfl rfl rfl fun w7 A7 O7 => ⟨rfl, ?_⟩)
          exact hK _ _ (hG.laid0 (by decide) n910 O7 A7 _)
        · intro dn us w6 A hev hy hG hdn hdep K hK
          have d1 : dn 1 = true := allD_mem hdep (by decide)
          have e0 : A.eval (.tmp 10) = .pointer (some ⟨wr.heap.size + 1, 0, none⟩) := by rw [hev]; rfl
          have e1 : A.eval (.tmp 34) = .agg #[.int .u64 p'.1, .int .u64 p'.2] := by rw [hev]; exact hG.pre 1 (by decide) (by decide) d1
          refine step_list (wpl_st rfl 103 (.tmp 10) (.tmp 34) rfl #[.int .u64 p'.1, .int .u64 p'.2] e0 _ e1 (hG.old1 hdn) (by kernel_rfl) rfl rfl rfl fun w7 A7 O7 => ⟨rfl, ?_⟩)
          exact hK _ _ (hG.laid1 (by decide) n910 O7 A7 _)
        intro dn us w4 hG hall
        have h9 := hG.out0 (hall 2 (by decide))
        have h10 := hG.out1 (hall 3 (by decide))
        have hO := hG.only
        have L4 := heap_only L2 (show Only _ W2 w4 from ⟨hO.os, hO.tape, hO.output, hO.size, hO.block⟩) (by show ¬ (_ = _ ∨ _ = _); omega)
        have M4 := heap_only mk (show Only _ W2 w4 from ⟨hO.os, hO.tape, hO.output, hO.size, hO.block⟩) (by show ¬ (_ = _ ∨ _ = _); omega)
        have D4 : Below wr.heap.size wr w4 := D2.trans ((show Only _ W2 w4 from ⟨hO.os, hO.tape, hO.output, hO.size, hO.block⟩).below D2.size fun j hj e => by rcases e with e | e <;> omega)
        refine ⟨{ L with state := .busy }, L4, ?_⟩
        rw [roundEnd_busy hs hp]
        exact ⟨putLoop_at (LoopAt.lt L4) L, (putLoop_heap _ _ _ _ (by omega)).trans M4, (putLoop_heap _ _ _ _ (by omega)).trans h9, (putLoop_heap _ _ _ _ (by omega)).trans h10, putLoop_below D4 (by omega) _⟩
      have hmain := left1_any wA.heap.size (wA.heap.size + 1) (w5.heap.size + 1) bl ol lc (w.heap.size + 1) i W1 _ k0 k1 kp k2 k3 hl hY kn
      refine hmain.mono ?_
      rintro e w' ⟨rfl, hM⟩
      refine ⟨_, rfl, L, hM.loop, (by rw [hs]; intro e; cases e), ?_⟩
      have HPE := Lib.hid hp
      have b9 : At (putLoop w' (w5.heap.size + 1) { L with state := .exhausted }) wr.heap.size 3 #[.int .i64 0] := (putLoop_heap _ _ _ _ (by omega)).trans hM.b9
      have b10 : At (putLoop w' (w5.heap.size + 1) { L with state := .exhausted }) (wr.heap.size + 1) 103 #[.int .u64 p.1, .int .u64 p.2] := (putLoop_heap _ _ _ _ (by omega)).trans hM.b10
      have mk := (putLoop_heap w' (w5.heap.size + 1) { L with state := .exhausted } w5.heap.size (by omega)).trans hM.mark
      have D2 : Below wr.heap.size wr (putLoop w' (w5.heap.size + 1) { L with state := .exhausted }) := putLoop_below hM.below (by omega) _
      have C2 := HC.out.still D2
      have z2 : wr.heap.size + 1 < (putLoop w' (w5.heap.size + 1) { L with state := .exhausted }).heap.size := b10.lt
      have hnr : w5.heap.size ∉ rs := fun hr => by
        have := HC.out.marks.2 _ hr
        have h2 : w5.heap.size < wr.heap.size := by
          rcases Nat.lt_or_ge w5.heap.size wr.heap.size with q | q
          · exact q
          · rw [Array.getElem?_eq_none q] at this; cases this
        omega
      clear hp hs hpa hmain hY kn kp k0 k1 k2 k3 hM q0 q1 E9 E10 C1 D5
      generalize putLoop w' (w5.heap.size + 1) { L with state := .exhausted } = W2 at *
      have c9 : W2.cell? ⟨wr.heap.size, 0, none⟩ = some (.int .i64 0) := b9.cell 0
      have ca : W2.cell? ⟨w.heap.size + 1, 0, none⟩ = some (.int .i64 i) := C2.at_.cell 0
      have hwr : IntKind.i64.wrap ((i : Int) + 1) = ((i + 1 : Nat) : Int) := IntWalk.i64_in _ (by omega)
      have HC2 := Lib.hid C2
      have HM2 := Lib.hid mk
      have HNR := Lib.hid hnr
      have HB10 := Lib.hid b10
      have HPI := Lib.hid hpi
      have lba : w.heap.size + 1 < wr.heap.size := by have := HC.out.at_.lt; omega
      clear C2 mk hnr b10 b9 hpi
      rw [HPE.out]
      dsimp only
      go_wp2_with (first
        | (at_builtin; refine wpList_append_own _ rfl (.tmp 43) (.tmp 45) 49 rfl (w.heap.size + 2) 103 i0 (.agg #[.int .u64 0, .int .u64 0]) 2 16 Tryz.underlying49 hi hz0 hz1 hz2 rfl (by decide) (.slice ao i oc) i _ rfl (ownsRow_below R3 ((Below.refl _ _).alloc (Nat.le_refl _) _) rfl) ⟨W3.heap.size, 0, none⟩ 1 1 [.int .u64 p.1, .int .u64 p.2] rfl rfl ?c1 ?c2 ?c3 ?c4 ?c5 ?next)
        | (refine wpl_ld rfl 103 _ rfl #[.int .u64 p.1, .int .u64 p.2] rfl _ (HB10.out.only O3 (by show ¬ _ = _; omega)) Tryz.underlying103 rfl (by kernel_rfl) rfl ?_)
        | (refine wpl_st rfl 3 _ _ rfl #[.int .i64 ((i + 1 : Nat) : Int)] rfl _ rfl HC2.out.at_ (by kernel_rfl) rfl rfl rfl ?_; intro W3 A3 O3
           have R3 := ownsRow_onlyB HC2.out.row O3 (fun i hi e => by have e' : i = w.heap.size + 1 := e; omega)))
      case c2 => exact ⟨rfl, rfl⟩
      case c3 => unfold maxLen; omega
      case c4 => omega
      case c5 => have := O3.size; omega
      case next =>
        intro v' w3 hR3 hg3 _
        have hz3 : W3.heap.size ≤ w3.heap.size := by have := hg3.size; rw [World.size_alloc] at this; omega
        have sz3 := O3.size
        have N3 := HC2.out.next O3 A3 hg3 hR3 HPI.out HM2.out HNR.out (by omega)
        have NN := Lib.hid N3
        clear N3 hR3 hg3 O3 A3 R3 hz3 sz3 c9 ca hwr
        go_wp2_with fail
        refine HK.out _ _ (Handed.intro (gk - 1) (by have := hig'.out; omega) (HJ.out _ _ _ ⟨_, _, _, _, _, _, _, _, _, _, _, _, _, _, _, _, _, _, _, _, _, v', w5.heap.size :: rs, i + 1, rfl, by have := hig'.out; omega, by have := hlim'.out; have := hc'.out; omega, NN.out⟩))
    · have hmain := left1_any wA.heap.size (wA.heap.size + 1) (w5.heap.size + 1) bl ol lc (w.heap.size + 1) i W1 (fun w2 => w2 = W1) (by rw [f3.cell l0]; exact q0) (by rw [C1.below.cell lq]; exact HQ.out) (HP.out.below C1.below) (by rw [f3.cell l1]; exact q1) (C1.at_.cell 0) hl (fun p' hp' => by rw [List.getElem?_eq_none (by omega)] at hp'; cases hp') (fun _ => rfl)
      refine hmain.mono ?_
      rintro e w' ⟨rfl, rfl⟩
      refine ⟨_, rfl, L, f1, (by rw [hs]; intro e; cases e), ?_⟩
      have HPE := Lib.hid hp
      have zl := f1.lt
      have b9 : At (putLoop w' (w5.heap.size + 1) { L with state := .exhausted }) wr.heap.size 3 #[.int .i64 (-1)] := (putLoop_heap _ _ _ _ (by omega)).trans E9
      have mk := (putLoop_heap w' (w5.heap.size + 1) { L with state := .exhausted } w5.heap.size (by omega)).trans f2
      have DX : Below wr.heap.size wr (putLoop w' (w5.heap.size + 1) { L with state := .exhausted }) := putLoop_below D5 (by omega) _
      have C2 := HC.out.still DX
      have hnr : w5.heap.size ∉ rs := fun hr => by
        have := HC.out.marks.2 _ hr
        have h2 : w5.heap.size < wr.heap.size := by
          rcases Nat.lt_or_ge w5.heap.size wr.heap.size with q | q
          · exact q
          · rw [Array.getElem?_eq_none q] at this; cases this
        omega
      clear hp hs hpa hmain q0 q1 E9 E10 C1 D5 DX
      generalize putLoop w' (w5.heap.size + 1) { L with state := .exhausted } = W2 at *
      have N2 : MInv w l i (.slice ao i oc) (w5.heap.size :: rs) W2 := ⟨C2.below, C2.at_, C2.row, ⟨List.nodup_cons.2 ⟨hnr, C2.marks.1⟩, fun x hx => by
        rcases List.mem_cons.1 hx with rfl | hx
        · exact mk
        · exact C2.marks.2 x hx⟩, fun x hx => by
        rcases List.mem_cons.1 hx with rfl | hx
        · omega
        · exact C2.low x hx⟩
      have he : l.take lim.toNat = l.take i := by rw [List.take_of_length_le (by omega), List.take_of_length_le (by have := hlim'.out; omega)]
      have HEE := Lib.hid (HE.out _ _ N2 he)
      have c9 : W2.cell? ⟨wr.heap.size, 0, none⟩ = some (.int .i64 (-1)) := b9.cell 0
      clear C2 N2 mk hnr b9 he
      rw [HPE.out]
      dsimp only
      go_wp2_with fail
      obtain ⟨rs', e1, e2, e3, e4⟩ := HEE.out
      refine ⟨rs', e1, e2, _, results_tmp rfl _ _ _, _, rfl, ⟨i, ?_⟩, e4⟩
      exact e3

set_option maxRecDepth 100000 in
theorem mpairs_any {l : List (Int × Int)} {N : Nat → Prop} {lv : Value} (lim : Int) (w : World) (hL : ListsIn w N lv [l]) (hl : l.length ≤ 100000) (hN : ∀ b, w.heap.size ≤ b → N b) :
    Calls Tryz.prog 141 #[lv, .int .i64 lim] w fun e w' => ∃ v, e = .returned v ∧ PairsIn w' N v (mrg [l] lim) ∧ Below w.heap.size w w' := by
  rcases hL with ⟨h, _⟩ | ⟨b, o, cap, rfl, _, _, _, h5⟩
  · cases h
  obtain ⟨u, hu, hp⟩ := h5 0 l rfl
  rw [Nat.add_zero] at hu
  have HA := Lib.hid (all_any (l := l) b o cap lim w hu hp hl)
  clear hu hp h5
  go_enter Tryz.func141, Tryz.ntmps141
  go_wp2_with (go_at_call 186; refine HA.out.mono ?_; rintro e w1 ⟨v, n, rfl, hR, hb⟩)
  go_ret
  exact ⟨v, rfl, PairsIn.of_row hR fun b hb => hN b (by omega), hb⟩
end Go.Proofs.YtccmjljlfgbicaaGreat

