/- Contracts of look: what is collected from the nodes of a bucket. -/
import Derived.Test.YtccmjljlfgbicaaGreatLook
import Derived.Deep.AppendLies
import Derived.Deep.Onto
namespace Go.Proofs.YtccmjljlfgbicaaGreat
open Go.ChangeShapes Go.WideShapes Go.ChangeAt Go.RowKit

theorem ownsRow_below {w w' : World} {base : Nat} {e : TypeId} {size : Nat} {v : Value} {n : Nat} {xs : List Value} (h : w.ownsRow base e size v n xs) {B : Nat} (hb : Below B w w') (hB : B = w.heap.size) : w'.ownsRow base e size v n xs := by
  subst hB
  refine ⟨h.1, h.2.imp id ?_⟩
  rintro ⟨g, cap, cur, h1, h2, h3, h4⟩
  have hg : g < w.heap.size := by
    rcases Nat.lt_or_ge g w.heap.size with hlt | hge
    · exact hlt
    · rw [Array.getElem?_eq_none hge] at h3; cases h3
  exact ⟨g, cap, cur, h1, h2, (hb.block g hg).trans h3, h4⟩

theorem ownsRow_put {w : World} {base : Nat} {e : TypeId} {size : Nat} {v : Value} {n : Nat} {xs : List Value} (h : w.ownsRow base e size v n xs) {l : Nat} (hl : l < base) (L : Loop) : (putLoop w l L).ownsRow base e size v n xs := by
  refine ⟨h.1, h.2.imp id ?_⟩
  rintro ⟨g, cap, cur, h1, h2, h3, h4⟩
  exact ⟨g, cap, cur, h1, h2, (putLoop_heap w l L g (by omega)).trans h3, h4⟩

theorem own_ne {w : World} {base : Nat} {e : TypeId} {size : Nat} {v : Value} {n : Nat} {xs : List Value} (h : w.ownsRow base e size v n xs) {i : Nat} (hi : i < base) : some i ≠ v.ownBlock := by
  rcases h.2 with ⟨rfl, _⟩ | ⟨g, cap, cur, rfl, h2, _⟩
  · intro e; cases e
  · intro e; have e' : i = g := Option.some.inj e; omega

theorem ownsRow_set {w : World} {base : Nat} {e : TypeId} {size : Nat} {v : Value} {n : Nat} {xs : List Value} (h : w.ownsRow base e size v n xs) {p : Addr} (hp : p.block < base) (u : Value) : (w.setCell p u).ownsRow base e size v n xs := by
  refine ⟨h.1, h.2.imp id ?_⟩
  rintro ⟨g, cap, cur, h1, h2, h3, h4⟩
  exact ⟨g, cap, cur, h1, h2, (Below.heap_setCell w p u g (by omega)).trans h3, h4⟩

theorem taken_heap (w : World) (r i : Nat) (hi : i ≠ r) : (taken w r).heap[i]? = w.heap[i]? := by
  show (w.heap.setIfInBounds r _)[i]? = _
  rw [Array.getElem?_setIfInBounds_ne (Ne.symm hi)]
theorem taken_below {B : Nat} {a w : World} {r : Nat} (h : Below B a w) (hr : B ≤ r) : Below B a (taken w r) :=
  ⟨h.os, h.tape, h.output, by show _ ≤ (w.heap.setIfInBounds r _).size; rw [Array.size_setIfInBounds]; exact h.size, fun i hi => (taken_heap w r i (by omega)).trans (h.block i hi)⟩
theorem ownsRow_taken {w : World} {base : Nat} {e : TypeId} {size : Nat} {v : Value} {n : Nat} {xs : List Value} (h : w.ownsRow base e size v n xs) {r : Nat} (hr : r < base) : (taken w r).ownsRow base e size v n xs := by
  refine ⟨h.1, h.2.imp id ?_⟩
  rintro ⟨g, cap, cur, h1, h2, h3, h4⟩
  exact ⟨g, cap, cur, h1, h2, (taken_heap w r g (by omega)).trans h3, h4⟩

theorem intinfo : (Tryz.prog.info? 3).map (fun i => (i.zero, i.size, i.bytes)) = some (some (.int .i64 0), 1, 8) := by kernel_rfl

/-- What is known while a bucket's nodes are collected: W0 the world at the beginning. -/
structure Coll (s : St) (bucket : Int) (W0 : World) (L : Loop) (j : Nat) (w : World) : Prop where
  loop : LoopAt w (W0.heap.size + 1 + 1) L
  mark : w.heap[W0.heap.size + 1]? = some (.deferred (some []))
  row : ∃ v, At w W0.heap.size 39 #[v] ∧ w.ownsRow (W0.heap.size + 1 + 1 + 1) 3 1 v j (((s.chain bucket).take j).map (.int .i64))
  below : Below W0.heap.size W0 w

theorem heap_below {w w' : World} {g : Nat} {o : Obj} (h : w.heap[g]? = some o) (hb : Below w.heap.size w w') : w'.heap[g]? = some o := by
  have hg : g < w.heap.size := by
    rcases Nat.lt_or_ge g w.heap.size with hlt | hge
    · exact hlt
    · rw [Array.getElem?_eq_none hge] at h; cases h
  exact (hb.block g hg).trans h

theorem Coll.still {s : St} {bucket : Int} {W0 : World} {L : Loop} {j : Nat} {w w' : World} (h : Coll s bucket W0 L j w) (hb : Below w.heap.size w w') : Coll s bucket W0 L j w' := by
  obtain ⟨v, h1, h2⟩ := h.row
  exact ⟨heap_below h.loop hb, heap_below h.mark hb, ⟨v, h1.below' hb, ownsRow_below h2 hb rfl⟩, h.below.trans (hb.mono (by have := h.loop.lt; omega))⟩

theorem behind_len (s : St) (n : Nat) (p : Int) : (s.behind n p).length ≤ n := by
  induction n generalizing p with
  | zero => exact Nat.le_refl _
  | succ n ih =>
    unfold St.behind
    split
    · simp
    · have := ih (s.follow p); simp; omega
theorem chain_len (s : St) (h : s.c.may = true) (bucket : Int) : (s.chain bucket).length ≤ 4161 := by
  unfold St.chain
  split
  · simp
  · have := behind_len s s.c.nodes.toNat (s.headAt bucket)
    have := nodes_bounds h
    omega

set_option maxRecDepth 100000 in
set_option maxHeartbeats 2000000 in
theorem appendSeq_any {k : Blks} {s : St} (bucket : Int) (cw cb : Nat) (w : World) (h : Holds k s w) (q0 : w.cell? ⟨cw, 0, none⟩ = some (.pointer (some ⟨k.bw, 0, none⟩))) (q1 : w.cell? ⟨cb, 0, none⟩ = some (.int .i64 bucket)) :
    Calls Tryz.prog 165 #[.slice none 0 0, .func (.func 166) #[] #[.pointer (some ⟨cw, 0, none⟩), .pointer (some ⟨cb, 0, none⟩)]] w
      fun e w' => ∃ v, e = .returned v ∧ w'.ownsRow w.heap.size 3 1 v (s.chain bucket).length ((s.chain bucket).map (.int .i64)) ∧ Below w.heap.size w w' := by
  have l0 := lt_of_cell q0
  have l1 := lt_of_cell q1
  refine callsC_of_wp Tryz.func165 rfl ?_
  simp only [Tryz.ntmps165, List.size_toArray, List.length_cons, List.length_nil, Nat.reduceAdd, Nat.reduceSub, Array.replicate_succ, Array.replicate_zero, List.push_toArray, List.append_toArray, List.nil_append, List.cons_append]
  go_wp2_with fail
  refine wp_rangeFunc_new (g := 166) rfl Tryz.func166 rfl rfl ?_
  intro fn W1 L hL f1 f2 f3
  obtain ⟨i0, hi, hz0, hz1, hz2⟩ := info_parts intinfo
  have hcl := chain_len s h.ok.may bucket
  rw [World.size_alloc] at f1 f2 f3 hL ⊢
  have HL := Lib.hid hL
  have hs : L.state = .ready := by rw [hL]; rfl
  have hp : L.pending = none := by rw [hL]; rfl
  have hpa : L.params = #[7] := by rw [hL]; rfl
  clear hL
  have hb1 : Below w.heap.size w W1 := ((Below.refl _ w).alloc (Nat.le_refl _) _).trans (f3.mono (Nat.le_succ _))
  refine (nodes1_any (k := k) (s := s) bucket cw cb (w.heap.size + 1 + 1) W1 (Coll s bucket w L) (fun _ => False) ?hI ?hB ?hY ?h0 ?q1).mono ?_
  case h0 => exact ⟨f1, f2, ⟨.slice none 0 0, (At.new w _ _).below f3 (Nat.lt_succ_self _), World.ownsRow_nil _ _ _ _⟩, hb1⟩
  case hI =>
    intro j w' hC
    exact ⟨h.below hC.below, by rw [hC.below.cell (p := ⟨cw, 0, none⟩) l0]; exact q0⟩
  case hB => exact fun j w1 w2 h1 h2 => h1.still h2
  case q1 => rw [hb1.cell (p := ⟨cb, 0, none⟩) l1]; exact q1
  case hY =>
    intro j n w' hn hC
    have HC := Lib.hid hC
    obtain ⟨v, hA, hR⟩ := hC.row
    refine yieldsTo_one hC.loop hpa ?_
    have ea := congrArg Loop.assign HL.out
    have eb := congrArg Loop.body HL.out
    have et := congrArg Loop.tmps HL.out
    rw [ea, eb, et]
    clear ea eb et
    simp only [newLoop, List.setIfInBounds_toArray, List.set_cons_succ, List.set_cons_zero]
    refine wpR_region_lit rfl ?_
    go_wp2_with fail
    refine ⟨rfl, L, HC.out.loop, hs, ?_⟩
    refine wpR_block ?_
    refine wpR_region_lit rfl ?_
    have hll := HC.out.loop.lt
    have hA2 : At (putLoop w' (w.heap.size + 1 + 1) { L with state := .busy }) w.heap.size 39 #[v] := (putLoop_heap w' _ _ _ (by omega)).trans hA
    have hR2 := ownsRow_put hR (l := w.heap.size + 1 + 1) (Nat.lt_succ_self _) { L with state := .busy }
    have hM2 : (putLoop w' (w.heap.size + 1 + 1) { L with state := .busy }).heap[w.heap.size + 1]? = some (.deferred (some [])) := (putLoop_heap w' _ _ _ (by omega)).trans HC.out.mark
    have hL2 := putLoop_at HC.out.loop.lt { L with state := .busy }
    have hB2 : Below w.heap.size w (putLoop w' (w.heap.size + 1 + 1) { L with state := .busy }) := putLoop_below HC.out.below (by omega) _
    have hj : j < (s.chain bucket).length := by
      rcases Nat.lt_or_ge j (s.chain bucket).length with hlt | hge
      · exact hlt
      · rw [List.getElem?_eq_none hge] at hn; cases hn
    have HT := Lib.hid (show (s.chain bucket).take (j + 1) = (s.chain bucket).take j ++ [n] by rw [List.take_add_one, hn]; rfl)
    have HN := Lib.hid hn
    clear hn hC hA hR
    rw [← putLoop_size w' (w.heap.size + 1 + 1) { L with state := .busy }] at hll
    generalize putLoop w' (w.heap.size + 1 + 1) { L with state := .busy } = W2 at *
    have c0 : W2.cell? ⟨w.heap.size, 0, none⟩ = some v := hA2.cell 0
    go_wp2_with (at_builtin; refine wpList_append_own _ rfl (.tmp 8) (.tmp 10) 39 rfl (w.heap.size + 1 + 1 + 1) 3 i0 (.int .i64 0) 1 8 Tryz.underlying39 hi hz0 hz1 hz2 rfl (by decide) v j _ rfl (ownsRow_below hR2 ((Below.refl _ _).alloc (Nat.le_refl _) _) rfl) ⟨W2.heap.size, 0, none⟩ 1 1 [.int .i64 n] rfl rfl ?c1 ?c2 ?c3 ?c4 ?c5 ?next)
    case c1 =>
      intro i u hu
      match i, hu with
      | 0, hu => simp at hu; subst hu; exact (At.new W2 _ _).cell 0
      | _ + 1, hu => simp at hu
    case c2 => intro u hu; simp at hu; subst hu; rfl
    case c3 => unfold maxLen; omega
    case c4 => omega
    case c5 => rw [World.size_alloc]; omega
    case next =>
      intro v' w3 hR3 hg3 _
      obtain ⟨g3, cap3, rfl, hg3a, hg3b⟩ := hR3.form (by omega)
      have hz3 : W2.heap.size ≤ w3.heap.size := by have := hg3.size; rw [World.size_alloc] at this; omega
      have keep : ∀ i, i < w.heap.size + 1 + 1 + 1 → w3.heap[i]? = W2.heap[i]? := fun i hi => (hg3.block i (by rw [World.size_alloc]; omega) (own_ne hR2 hi)).trans (Below.heap_alloc W2 _ i (by omega))
      have A3 : At w3 w.heap.size 39 #[v] := (keep _ (by omega)).trans hA2
      have M3 := (keep _ (Nat.lt_succ_of_lt (Nat.lt_succ_self _))).trans hM2
      have L3 : LoopAt w3 (w.heap.size + 1 + 1) { L with state := .busy } := (keep _ (Nat.lt_succ_self _)).trans hL2
      have B3 : Below w.heap.size w w3 := ⟨hg3.os.trans hB2.os, hg3.tape.trans hB2.tape, hg3.output.trans hB2.output, Nat.le_trans hB2.size hz3, fun i hi => (keep i (by omega)).trans (hB2.block i hi)⟩
      have c3 : w3.cell? ⟨w.heap.size, 0, none⟩ = some v := A3.cell 0
      have fz3 := A3.frozen 0
      have LL := Lib.hid L3
      have KK := Lib.hid keep
      have MM := Lib.hid M3
      have RR := Lib.hid hR3
      clear L3 keep M3 hM2 hL2 hR3
      go_wp2_with fail
      have MMo := MM.out
      have LLo := LL.out
      refine ⟨rfl, { L with state := .busy }, (Below.heap_setCell w3 ⟨w.heap.size, 0, none⟩ _ _ (by show ¬ _ = w.heap.size; omega)).trans LLo, ?_⟩
      refine ⟨rfl, ?_⟩
      rw [roundEnd_busy hs hp]
      have hsz : (w3.setCell ⟨w.heap.size, 0, none⟩ (.slice (some ⟨g3, 0, none⟩) (j + 1) cap3)).heap.size = w3.heap.size := by simp [World.setCell]
      refine ⟨putLoop_at (by rw [hsz]; omega) L, (putLoop_heap _ _ _ _ (by omega)).trans ((Below.heap_setCell w3 ⟨w.heap.size, 0, none⟩ _ _ (by show ¬ _ = w.heap.size; omega)).trans MMo), ⟨_, (putLoop_heap _ _ _ _ (by omega)).trans (A3.set 0 _), ?_⟩, putLoop_below (B3.setCell (Nat.le_refl _) _) (by omega) _⟩
      refine ownsRow_put ?_ (Nat.lt_succ_self _) _
      have hr := RR.out
      rw [show ((s.chain bucket).take (j + 1)).map (Value.int .i64) = List.take j (List.map (Value.int .i64) (s.chain bucket)) ++ [Value.int .i64 n] by rw [HT.out, List.map_append, List.map_take]; rfl]
      exact ownsRow_set hr (by show w.heap.size < _; omega) _
  rintro e w' ⟨rfl, hF | hC⟩
  · exact hF.elim
  refine ⟨_, rfl, L, (by rw [World.size_alloc]; exact hC.loop), (by rw [hs]; intro e; cases e), ?_⟩
  rw [World.size_alloc]
  obtain ⟨v, hA, hR⟩ := hC.row
  have hll := hC.loop.lt
  have hA2 : At (putLoop w' (w.heap.size + 1 + 1) { L with state := .exhausted }) w.heap.size 39 #[v] := (putLoop_heap w' _ _ _ (by omega)).trans hA
  have hR2 := ownsRow_put hR (l := w.heap.size + 1 + 1) (Nat.lt_succ_self _) { L with state := .exhausted }
  have hM2 : (putLoop w' (w.heap.size + 1 + 1) { L with state := .exhausted }).heap[w.heap.size + 1]? = some (.deferred (some [])) := (putLoop_heap w' _ _ _ (by omega)).trans hC.mark
  have hB2 : Below w.heap.size w (putLoop w' (w.heap.size + 1 + 1) { L with state := .exhausted }) := putLoop_below hC.below (by omega) _
  have HP := Lib.hid hp
  have MM := Lib.hid hM2
  have HS := Lib.hid hs
  have HPA := Lib.hid hpa
  clear hC hA hM2 hp hs hpa hR
  rw [← putLoop_size w' (w.heap.size + 1 + 1) { L with state := .exhausted }] at hll
  generalize putLoop w' (w.heap.size + 1 + 1) { L with state := .exhausted } = W2 at *
  have c0 : W2.cell? ⟨w.heap.size, 0, none⟩ = some v := hA2.cell 0
  rw [HP.out]
  dsimp only
  go_wp2_with fail
  refine ⟨[w.heap.size + 1], rfl, ⟨by simp, by simpa using MM.out⟩, _, results_tmp rfl _ _ _, v, rfl, ?_, taken_below hB2 (by omega)⟩
  have ht := ownsRow_taken (hR2.mono (by omega : w.heap.size + 1 + 1 ≤ w.heap.size + 1 + 1 + 1)) (r := w.heap.size + 1) (Nat.lt_succ_self _)
  rw [List.take_length] at ht
  exact ht.mono (by omega)

set_option maxRecDepth 100000 in
set_option maxHeartbeats 2000000 in
theorem collect_any {k : Blks} {s : St} (bucket : Int) (cw cb : Nat) (w : World) (h : Holds k s w) (q0 : w.cell? ⟨cw, 0, none⟩ = some (.pointer (some ⟨k.bw, 0, none⟩))) (q1 : w.cell? ⟨cb, 0, none⟩ = some (.int .i64 bucket)) :
    Calls Tryz.prog 95 #[.func (.func 166) #[] #[.pointer (some ⟨cw, 0, none⟩), .pointer (some ⟨cb, 0, none⟩)]] w
      fun e w' => ∃ v, e = .returned v ∧ w'.ownsRow w.heap.size 3 1 v (s.chain bucket).length ((s.chain bucket).map (.int .i64)) ∧ Below w.heap.size w w' := by
  go_enter Tryz.func95, Tryz.ntmps95
  go_wp2_with (go_at_call 165; refine (appendSeq_any bucket cw cb w h q0 q1).mono ?_; rintro e w1 ⟨v, rfl, h1, h2⟩)
  go_ret
  exact ⟨v, rfl, h1, h2⟩

set_option maxRecDepth 100000 in
set_option maxHeartbeats 2000000 in
theorem nodes_any (k : Blks) (bucket : Int) (w : World) :
    Calls Tryz.prog 96 #[.pointer (some ⟨k.bw, 0, none⟩), .int .i64 bucket] w
      fun e w' => e = .returned (.func (.func 166) #[] #[.pointer (some ⟨w.heap.size, 0, none⟩), .pointer (some ⟨w.heap.size + 1, 0, none⟩)]) ∧
        w'.cell? ⟨w.heap.size, 0, none⟩ = some (.pointer (some ⟨k.bw, 0, none⟩)) ∧ w'.cell? ⟨w.heap.size + 1, 0, none⟩ = some (.int .i64 bucket) ∧ Below w.heap.size w w' := by
  go_enter Tryz.func96, Tryz.ntmps96
  go_wp2
  go_ret
  refine ⟨?_, ?_, ?_, below2 _ _⟩
  · rfl
  · go_simp
  · go_simp

set_option maxRecDepth 100000 in
set_option maxHeartbeats 2000000 in
/-- look.Chain: the nodes of a bucket, in memory of its own. -/
theorem chain_any {k : Blks} {s : St} (bucket : Int) (w : World) (h : Holds k s w) :
    Calls Tryz.prog 35 #[.pointer (some ⟨k.bw, 0, none⟩), .int .i64 bucket] w
      fun e w' => ∃ v, e = .returned v ∧ w'.ownsRow w.heap.size 3 1 v (s.chain bucket).length ((s.chain bucket).map (.int .i64)) ∧ Below w.heap.size w w' := by
  go_enter Tryz.func35, Tryz.ntmps35
  go_wp2_with (first | (go_at_call 96; refine (nodes_any k bucket _).mono ?_; rintro e w1 ⟨rfl, c1, c2, hb1⟩) | (go_at_call 95; refine (collect_any bucket _ _ _ (h.below hb1) c1 c2).mono ?_; rintro e w2 ⟨v, rfl, h1, h2⟩))
  go_ret
  exact ⟨v, rfl, h1.mono hb1.size, hb1.trans (h2.mono hb1.size)⟩

theorem chain_nil (bucket : Int) (w : World) :
    Calls Tryz.prog 35 #[.pointer none, .int .i64 bucket] w fun e w' => e = .returned (.slice none 0 0) ∧ w = w' := by
  go_enter Tryz.func35, Tryz.ntmps35
  go_wp2
  go_ret
  exact ⟨rfl, rfl⟩

end Go.Proofs.YtccmjljlfgbicaaGreat
