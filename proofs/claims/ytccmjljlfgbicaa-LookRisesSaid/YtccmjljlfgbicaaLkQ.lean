/- Contract of look.Pairs, where there is one bucket. Printed by lkq.py. -/
import Derived.Test.YtccmjljlfgbicaaLkP
namespace Go.Proofs.Ytccmjljlfgbicaa
open Go.ChangeShapes Go.WideShapes Go.ChangeAt Go.RowKit

theorem pairinfo : (Try.prog.info? 48).map (fun i => (i.zero, i.size, i.bytes)) = some (some (.agg #[.int .u64 0, .int .u64 0]), 2, 16) := by kernel_rfl
theorem zbool (w : World) : (zeroValue 4).run Try.prog w = .ok (.bool false) w := by kernel_rfl

set_option maxRecDepth 100000 in
set_option maxHeartbeats 4000000 in
theorem lpairs_any {k : Blks} {s : St} (w : World) (h : Holds k s w) (hb : s.c.buckets = 1) (hlen : (s.chain 0).length ≤ 19) :
    Calls Try.prog 23 #[.pointer (some ⟨k.bw, 0, none⟩)] w fun e w' => ∃ v, e = .returned v ∧ w'.ownsRow w.heap.size 48 2 v s.prs.length (pairsV s.prs) ∧ Below w.heap.size w w' := by
  obtain ⟨⟨-, g1, -, -, -⟩, -, -, gl⟩ := h.wfacts
  rw [hb] at g1
  have H := Lib.hid h
  have A1 := (At.new w 32 #[.pointer (some ⟨k.bw, 0, none⟩)]).alloc (.cells #[.slice none 0 0] 36)
  have A3 := At.new1 w (.cells #[.pointer (some ⟨k.bw, 0, none⟩)] 32) 36 #[.slice none 0 0]
  have D2 := below_twice w (.cells #[.pointer (some ⟨k.bw, 0, none⟩)] 32) (.cells #[.slice none 0 0] 36)
  have z2 : ((w.alloc (.cells #[.pointer (some ⟨k.bw, 0, none⟩)] 32)).alloc (.cells #[.slice none 0 0] 36)).heap.size = w.heap.size + 1 + 1 := by simp
  clear h hb
  refine callsC_of_wp Try.func23 rfl ?_
  simp only [Try.ntmps23, List.size_toArray, List.length_cons, List.length_nil, Nat.reduceAdd, Nat.reduceSub, Array.replicate_succ, Array.replicate_zero, List.push_toArray, List.append_toArray, List.nil_append, List.cons_append]
  go_upto_region 2 with fail
  generalize (w.alloc (.cells #[.pointer (some ⟨k.bw, 0, none⟩)] 32)).alloc (.cells #[.slice none 0 0] 36) = w2 at *
  have c1 : w2.cell? ⟨w.heap.size, 0, none⟩ = some (.pointer (some ⟨k.bw, 0, none⟩)) := A1.cell 0
  go_upto_region 5 with (refine wpl_op (by rfl) (op_makeSet 101 rfl .i64 fun hM0 => ?_))
  have A4 := At.new (w2.alloc (.map #[] 0)) 101 #[.map (some (w.heap.size + 1 + 1))]
  have D24 : Below w2.heap.size w2 ((w2.alloc (.map #[] 0)).alloc (.cells #[.map (some (w.heap.size + 1 + 1))] 101)) := below_twice w2 _ _
  have BM : SetAt ((w2.alloc (.map #[] 0)).alloc (.cells #[.map (some (w.heap.size + 1 + 1))] 101)) w2.heap.size .i64 [] := hM0.below ((Below.refl _ _).alloc (Nat.le_refl _) _)
  rw [World.size_alloc] at A4
  generalize (w2.alloc (.map #[] 0)).alloc (.cells #[.map (some (w.heap.size + 1 + 1))] 101) = w4 at *
  have B1 := A1.below' D24
  have B3 := A3.below' D24
  have D4 := D2.trans (D24.mono D2.size)
  have l4 := A4.lt
  rw [z2] at A4 BM l4
  have H4 := Lib.hid (H.out.below D4)
  have c1 : w4.cell? ⟨w.heap.size, 0, none⟩ = some (.pointer (some ⟨k.bw, 0, none⟩)) := B1.cell 0
  have g1 : w4.cell? ⟨k.bw, 1, none⟩ = some (.int .i64 1) := by rw [D4.cell gl]; exact g1
  have gl4 : k.bw < w4.heap.size := Nat.lt_of_lt_of_le gl D4.size
  clear A1 A3 D2 hM0 D24
  go_wp2_with fail
  refine wp_loop_rounds 2 ?_
  rw [rounds_succ]
  go_wp2_with (go_at_call 56; refine (nodes_any k 0 _).mono ?_; rintro e w5 ⟨rfl, q0, q1, hb5⟩)
  refine wp_rangeFunc_new (g := 105) rfl Try.func105 rfl rfl ?_
  intro fn W1 L hL f1 f2 f3
  obtain ⟨i0, hi, hz0, hz1, hz2⟩ := info_parts pairinfo
  have HL := Lib.hid hL
  have hs : L.state = .ready := by rw [hL]; rfl
  have hp : L.pending = none := by rw [hL]; rfl
  have hpa : L.params = #[25] := by rw [hL]; rfl
  clear hL
  have z45 := hb5.size
  have zcw := World.block_lt_of_cell? w5 _ q0
  have zcb := World.block_lt_of_cell? w5 _ q1
  have hb4 : Below w4.heap.size w4 W1 := hb5.trans (f3.mono hb5.size)
  refine (nodes1_any (k := k) (s := s) 0 w4.heap.size (w4.heap.size + 1) (w5.heap.size + 1) W1 (fun j => PInv k w w4.heap.size (w5.heap.size + 1) w5.heap.size L (s.vw.onceRun [] ((s.chain 0).take j)) (s.vw.prsRun s.vl [] ((s.chain 0).take j))) (fun _ => False) ?hI ?hB ?hY ?h0 ?q1).mono ?_
  case h0 => exact ⟨f1, f2, B1.below' hb4, ⟨.slice none 0 0, B3.below' hb4, World.ownsRow_nil _ _ _ _⟩, BM.below hb4, A4.below' hb4, by rw [f3.cell zcw]; exact q0, D4.trans (hb4.mono D4.size)⟩
  case hI => exact fun j w' hC => ⟨H.out.below hC.below, hC.cw⟩
  case hB => exact fun j w1 w2 h1 h2 => h1.still h2
  case q1 => rw [f3.cell zcb]; exact q1
  case hY =>
    intro j n w' hn hC
    have hpi := hC.put (L' := { L with state := .busy }) (by omega) (by omega) (by omega)
    refine yieldsTo_one hC.loop hpa ?_
    have ea := congrArg Loop.assign HL.out
    have eb := congrArg Loop.body HL.out
    have et := congrArg Loop.tmps HL.out
    rw [ea, eb, et]
    clear ea eb et
    simp only [newLoop, List.setIfInBounds_toArray, List.set_cons_succ, List.set_cons_zero]
    refine wpR_region_lit rfl ?_
    go_wp2_with fail
    refine ⟨rfl, L, hC.loop, hs, ?_⟩
    have hj : j < (s.chain 0).length := (List.getElem?_eq_some_iff.1 hn).1
    have HT := Lib.hid (show (s.chain 0).take (j + 1) = (s.chain 0).take j ++ [n] by rw [List.take_add_one, hn]; rfl)
    have hsn := once_snoc s.vw n ((s.chain 0).take j) []
    have hpn := prs_snoc s.vw s.vl n ((s.chain 0).take j) []
    have HPL := Lib.hid (prs_len s.vw s.vl ((s.chain 0).take j) [])
    have HTL := Lib.hid (show ((s.chain 0).take j).length = j by rw [List.length_take]; omega)
    rw [← HT.out] at hsn hpn
    generalize putLoop w' (w5.heap.size + 1) { L with state := .busy } = W2 at *
    have HP := Lib.hid hpi
    have HH := Lib.hid (H.out.below hpi.below)
    have hin := isIn_iff s (s.vw.op n)
    have hop : s.vw.op n = s.carried n := rfl
    rw [hop] at hsn hpn hin
    have c0 : W2.cell? ⟨w.heap.size, 0, none⟩ = some (.pointer (some ⟨k.bw, 0, none⟩)) := hpi.p1.cell 0
    have cm : W2.cell? ⟨w.heap.size + 1 + 1 + 1, 0, none⟩ = some (.map (some (w.heap.size + 1 + 1))) := hpi.mp.cell 0
    obtain ⟨-, g5, g6, glw⟩ := HH.out.wfacts
    clear hpi hC c1 q0 q1 zcb
    refine wpR_block ?_
    by_cases hnew : s.vw.inn (s.carried n) ∧ s.carried n ∉ s.vw.onceRun [] ((s.chain 0).take j)
    · rw [if_pos hnew] at hsn hpn
      have hi1 : s.isIn (s.carried n) = true := hin.2 hnew.1
      have hmem : decide (s.carried n ∈ s.vw.onceRun [] ((s.chain 0).take j)) = false := decide_eq_false hnew.2
      have HI := Lib.hid hi1
      have HME := Lib.hid hmem
      have HSN := Lib.hid hsn
      have HPN := Lib.hid hpn
      have HNEW := Lib.hid hnew
      clear hi1 hmem hsn hpn hnew hin hop
      refine wpR_seq_k fun K1 hK1 => ?_
      refine wpR_region_lit rfl ?_
      go_wp2_with (go_at_call 57; refine (carried_any n _ HH.out).mono ?_; rintro e w3 ⟨rfl, rfl⟩)
      refine ⟨rfl, hK1 _ _ ?_⟩
      refine wpR_seq_k fun K2 hK2 => ?_
      refine wpR_region_lit rfl ?_
      go_wp2_with (first
        | (refine wpl_op (by rfl) (op_has 101 _ _ rfl Try.underlying101 Try.underlying3 zbool (w.heap.size + 1 + 1) rfl _ rfl P6.out.set ?_); rw [HME.out])
        | (go_at_call 58; refine (lin_any (s.carried n) _ HH.out).mono ?_; rw [HI.out]; rintro e w6 ⟨rfl, hb6⟩
           have P6 := Lib.hid (HP.out.still hb6)
           have cm6 := P6.out.mp.cell 0
           have c06 := P6.out.p1.cell 0))
      refine ⟨rfl, hK2 _ _ ?_⟩
      refine wpR_cond (t := true) rfl ?_
      refine wpR_seq_k fun K3 hK3 => ?_
      refine wpR_region_lit rfl ?_
      go_wp2_with (refine wpl_op (by rfl) (op_add 101 _ _ _ rfl Try.underlying101 Try.underlying3 (w.heap.size + 1 + 1) rfl _ rfl rfl P6.out.set fun w7 hM7 O7 => ?_))
      have hadd : addS (s.vw.onceRun [] ((s.chain 0).take j)) (s.carried n) = s.vw.onceRun [] ((s.chain 0).take (j + 1)) := by rw [HSN.out]; exact if_neg HNEW.out.2
      rw [hadd] at hM7
      have P7 := Lib.hid (P6.out.grow (by omega) (by omega) (by omega) O7 hM7)
      have c07 := P7.out.p1.cell 0
      clear hM7 O7 hadd
      refine ⟨rfl, hK3 _ _ ?_⟩
      refine wpR_seq_k fun K4 hK4 => ?_
      refine wpR_region_lit rfl ?_
      go_wp2_with (first
        | (refine wpl_st rfl 28 _ _ rfl (s.call (s.carried n)).c rfl _ rfl (At.new w8 _ _) (by kernel_rfl) rfl rfl rfl ?_; intro w9 A9 O9)
        | (go_at_call 59; refine (lcall_any (s.carried n) _ (H.out.below P7.out.below)).mono ?_; rintro e w8 ⟨rfl, hb8⟩))
      refine ⟨rfl, hK4 _ _ ?_⟩
      have P9 := (P7.out.still hb8).still (((Below.refl _ w8).alloc (Nat.le_refl _) _).trans (O9.below (by simp) fun j hj e => by have e' : j = w8.heap.size := e; omega))
      have HP9 := Lib.hid P9
      obtain ⟨v, hA, hR⟩ := P9.out
      have c09 : w9.cell? ⟨w.heap.size + 1, 0, none⟩ = some v := hA.cell 0
      have d1 : w9.cell? ⟨w8.heap.size, 1, none⟩ = some (.int .u64 (s.call (s.carried n)).key) := A9.cell 1
      have d2 : w9.cell? ⟨w8.heap.size, 2, none⟩ = some (.int .u64 (s.call (s.carried n)).val) := A9.cell 2
      have hz9 : w5.heap.size + 1 < w9.heap.size := P9.loop.lt
      clear P9 A9 O9 hA c07 c06 cm6 cm c0
      generalize hrl : s.vw.prsRun s.vl [] ((s.chain 0).take j) = rl at *
      refine wpR_region_lit rfl ?_
      go_wp2_with (at_builtin; refine wpList_append_own _ rfl (.tmp 49) (.tmp 55) 36 rfl (w5.heap.size + 1 + 1) 48 i0 (.agg #[.int .u64 0, .int .u64 0]) 2 16 Try.underlying36 hi hz0 hz1 hz2 rfl (by decide) v rl.length _ rfl (ownsRow_below hR ((Below.refl _ _).alloc (Nat.le_refl _) _) rfl) ⟨w9.heap.size, 0, none⟩ 1 1 [.int .u64 (s.call (s.carried n)).key, .int .u64 (s.call (s.carried n)).val] rfl rfl ?c1 ?c2 ?c3 ?c4 ?c5 ?next)
      case c1 =>
        intro i u hu
        match i, hu with
        | 0, hu => simp at hu; subst hu; exact (At.new w9 _ _).cell 0
        | 1, hu => simp at hu; subst hu; exact (At.new w9 _ _).cell 1
        | _ + 2, hu => simp at hu
      case c2 => intro u hu; simp at hu; rcases hu with rfl | rfl <;> rfl
      case c3 => have := HPL.out; have := HTL.out; unfold maxLen; omega
      case c4 => have := HPL.out; have := HTL.out; omega
      case c5 => rw [World.size_alloc]; omega
      case next =>
        intro v' w3 hR3 hg3 _
        have hz3 : w9.heap.size ≤ w3.heap.size := by have := hg3.size; rw [World.size_alloc] at this; omega
        have keep : ∀ i, i < w5.heap.size + 1 + 1 → w3.heap[i]? = w9.heap[i]? := fun i hi => (hg3.block i (by rw [World.size_alloc]; omega) (own_ne hR hi)).trans (Below.heap_alloc w9 _ i (by omega))
        have Q9 := HP9.out
        obtain ⟨v9, hA9, _⟩ := Q9.out
        have hvv : v9 = v := by have e1 := hA9.cell 0; rw [c09] at e1; simpa using e1.symm
        subst hvv
        have A3 : At w3 (w.heap.size + 1) 36 #[v9] := (keep _ (by omega)).trans hA9
        have B3 : Below w.heap.size w w3 := ⟨hg3.os.trans Q9.below.os, hg3.tape.trans Q9.below.tape, hg3.output.trans Q9.below.output, Nat.le_trans Q9.below.size hz3, fun i hi => (keep i (by omega)).trans (Q9.below.block i hi)⟩
        have c3 : w3.cell? ⟨w.heap.size + 1, 0, none⟩ = some v9 := A3.cell 0
        have fz3 := A3.frozen 0
        have l3 := A3.lt
        have hR3' : w3.ownsRow (w5.heap.size + 1 + 1) 48 2 v' (rl.length + 1) (pairsV (rl ++ [(s.vw.key n, s.vl (s.carried n))])) := by
          rw [pairsV_append]; exact hR3
        have RR := Lib.hid hR3'
        have KK := Lib.hid keep
        have BB := Lib.hid B3
        have AA := Lib.hid A3
        clear keep hR3 hR3' B3 A3 c09 d1 d2 hA9 Q9 hg3
        obtain ⟨gg3, cap3, hv', _⟩ := RR.out.form (Nat.succ_pos _)
        subst hv'
        go_wp2_with fail
        have R3 := RR.out
        have O3 : Only (fun j => j = w.heap.size + 1) w3 (w3.setCell ⟨w.heap.size + 1, 0, none⟩ (.slice (some ⟨gg3, 0, none⟩) (rl.length + 1) cap3)) := (Only.refl (fun j => j = w.heap.size + 1) w3).set (p := ⟨w.heap.size + 1, 0, none⟩) (.inl rfl) _
        have P3 : PInv k w w4.heap.size (w5.heap.size + 1) w5.heap.size { L with state := .busy } (s.vw.onceRun [] ((s.chain 0).take (j + 1))) (s.vw.prsRun s.vl [] ((s.chain 0).take (j + 1))) (w3.setCell ⟨w.heap.size + 1, 0, none⟩ (.slice (some ⟨gg3, 0, none⟩) (rl.length + 1) cap3)) := by
          have Q9 := HP9.out
          rw [HPN.out]
          refine ⟨heap_only ((KK.out _ (by omega)).trans Q9.loop) O3 (by show ¬ _ = _; omega), heap_only ((KK.out _ (by omega)).trans Q9.mark) O3 (by show ¬ _ = _; omega), At.only ((KK.out _ (by omega)).trans Q9.p1) O3 (by show ¬ _ = _; omega), ⟨_, AA.out.set 0 _, by rw [List.length_append]; exact ownsRow_onlyB R3 O3 fun i hi e => by have e' : i = w.heap.size + 1 := e; omega⟩, SetAt.only ((KK.out _ (by omega)).trans Q9.set) O3 (by show ¬ _ = _; omega), At.only ((KK.out _ (by omega)).trans Q9.mp) O3 (by show ¬ _ = _; omega), ?_, BB.out.trans (O3.below BB.out.size fun i hi e => by have e' : i = w.heap.size + 1 := e; omega)⟩
          refine cell_only ?_ O3 (by show ¬ w4.heap.size = w.heap.size + 1; omega)
          rw [World.cell?_of_block (KK.out w4.heap.size (by omega))]; exact Q9.cw
        refine ⟨rfl, { L with state := .busy }, P3.loop, ?_⟩
        refine ⟨rfl, ?_⟩
        rw [roundEnd_busy hs hp]
        exact P3.put (by omega) (by omega) (by omega)
    · rw [if_neg hnew] at hsn hpn
      have HSN := Lib.hid hsn
      have HPN := Lib.hid hpn
      have hnew' : s.isIn (s.carried n) = true → s.carried n ∈ s.vw.onceRun [] ((s.chain 0).take j) := fun e => Classical.byContradiction fun hm => hnew ⟨hin.1 e, hm⟩
      clear hsn hpn hin hop hnew
      refine wpR_seq_k fun K1 hK1 => ?_
      refine wpR_region_lit rfl ?_
      go_wp2_with (go_at_call 57; refine (carried_any n _ HH.out).mono ?_; rintro e w3 ⟨rfl, rfl⟩)
      refine ⟨rfl, hK1 _ _ ?_⟩
      cases hi1 : s.isIn (s.carried n) with
      | true =>
        have HI := Lib.hid hi1
        have HME := Lib.hid (decide_eq_true (hnew' hi1))
        clear hnew' hi1
        refine wpR_seq_k fun K2 hK2 => ?_
        refine wpR_region_lit rfl ?_
        go_wp2_with (first
          | (refine wpl_op (by rfl) (op_has 101 _ _ rfl Try.underlying101 Try.underlying3 zbool (w.heap.size + 1 + 1) rfl _ rfl P6.out.set ?_); rw [HME.out])
          | (go_at_call 58; refine (lin_any (s.carried n) _ HH.out).mono ?_; rw [HI.out]; rintro e w6 ⟨rfl, hb6⟩
             have P6 := Lib.hid (HP.out.still hb6)
             have cm6 := P6.out.mp.cell 0
             have c06 := P6.out.p1.cell 0))
        refine ⟨rfl, hK2 _ _ ?_⟩
        refine wpR_cond (t := false) rfl (wpR_skip ?_)
        have P3 := P6.out
        rw [← HSN.out, ← HPN.out] at P3
        refine ⟨{ L with state := .busy }, P3.loop, ?_⟩
        refine ⟨rfl, ?_⟩
        rw [roundEnd_busy hs hp]
        exact P3.put (by omega) (by omega) (by omega)
      | false =>
        have HI := Lib.hid hi1
        clear hnew' hi1
        refine wpR_seq_k fun K2 hK2 => ?_
        refine wpR_region_lit rfl ?_
        go_wp2_with (go_at_call 58; refine (lin_any (s.carried n) _ HH.out).mono ?_; rw [HI.out]; rintro e w6 ⟨rfl, hb6⟩
                     have P6 := Lib.hid (HP.out.still hb6))
        refine ⟨rfl, hK2 _ _ ?_⟩
        refine wpR_cond (t := false) rfl (wpR_skip ?_)
        have P3 := P6.out
        rw [← HSN.out, ← HPN.out] at P3
        refine ⟨{ L with state := .busy }, P3.loop, ?_⟩
        refine ⟨rfl, ?_⟩
        rw [roundEnd_busy hs hp]
        exact P3.put (by omega) (by omega) (by omega)
  rintro e w' ⟨rfl, hF | hC⟩
  · exact hF.elim
  refine ⟨_, rfl, L, hC.loop, (by rw [hs]; intro e; cases e), ?_⟩
  have P2 := hC.put (L' := { L with state := .exhausted }) (by omega) (by omega) (by omega)
  rw [List.take_length] at P2
  have HP2 := Lib.hid P2
  have HPE := Lib.hid hp
  obtain ⟨v, hA, hR⟩ := P2.out
  have c3 := hA.cell 0
  have MM := Lib.hid P2.mark
  have zz2 := P2.loop.lt
  have hln := prs_len s.vw s.vl (s.chain 0) []
  clear hC P2 hp hs hpa c1 q0 q1 zcb
  generalize putLoop w' (w5.heap.size + 1) { L with state := .exhausted } = W2 at *
  rw [HPE.out]
  dsimp only
  have AA := Lib.hid hA
  have RR := Lib.hid hR
  clear hA hR
  go_wp2_with fail
  rw [rounds_succ]
  go_wp2_with (go_at_call 60; refine (sort_row _ v _ _ RR.out (by omega)).mono ?_; rintro e wT ⟨rfl, hRT, hOT⟩; have c3T := cell_only (p := ⟨w.heap.size + 1, 0, none⟩) c3 hOT (by show ¬ w5.heap.size + 1 + 1 ≤ w.heap.size + 1; omega))
  have hMT := heap_only MM.out hOT (by show ¬ w5.heap.size + 1 + 1 ≤ w5.heap.size; omega)
  have hBT : Below w.heap.size w wT := HP2.out.below.trans (hOT.below HP2.out.below.size fun i hi e => by have e' : w5.heap.size + 1 + 1 ≤ i := e; omega)
  refine ⟨[w5.heap.size], rfl, ⟨by simp, by simpa using hMT⟩, _, results_tmp rfl _ _ _, v, rfl, ?_, taken_below hBT (by omega)⟩
  have ht := ownsRow_taken hRT (r := w5.heap.size) (by omega)
  have e : s.prs.length = (s.vw.prsRun s.vl [] (s.chain 0)).length := isort_len _
  rw [e]
  exact ht.mono (by omega)
end Go.Proofs.Ytccmjljlfgbicaa

