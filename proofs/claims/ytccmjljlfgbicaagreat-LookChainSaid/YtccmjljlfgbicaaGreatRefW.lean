/- Contract of corrieref07.Make: a node is written down in the document's book. -/
import Derived.Test.YtccmjljlfgbicaaGreatRefV
import Derived.Test.YtccmjljlfgbicaaGreatSt
import Derived.Test.YtccmjljlfgbicaaGreatApp
namespace Go.Proofs.YtccmjljlfgbicaaGreat
open Go.ChangeShapes Go.WideShapes Go.ChangeAt Go.RowKit

theorem res_cell_tmp2 {P : Program} {fn : Func} {p u v : Tmp} {ty : TypeId} (h : fn.results = #[.cell p ty, .tmp u, .tmp v]) (tmps : Array Value) (w : World) (g : Nat) (cs : Array Value) (d : TypeDesc)
    (hp : tmps.getD p undef = .pointer (some ⟨g, 0, none⟩)) (hA : At w g ty cs)
    (hu : P.underlying ty = some d) (hd : (match d with | .struct _ | .array _ _ => true | _ => false) = true) (hi : (P.info? ty).map (·.size) = some cs.size) :
    (results fn tmps).run P w = .ok (.tuple #[.agg cs, tmps.getD u undef, tmps.getD v undef]) w := by
  have e : (results fn tmps).run P w = ((asAddr (tmps.getD p undef)).run P w).andThen fun a w₁ => ((loadVar ty a).run P w₁).andThen fun x w₂ => .ok (.tuple #[x, tmps.getD u undef, tmps.getD v undef]) w₂ := by
    simp only [results, h]
    simp [Sem.run_bind, Result.andThen]
  rw [e, hp]
  simp only [asAddr, Sem.run_pure, Result.andThen_ok, run_loadVar_row w g ty ty cs (0, 0) d hA hu hd hi]

theorem ints_read {w : World} {ao : Option Addr} {l : List Int} (h : ReadAt w ao (intsV l)) {k : Nat} {x : Int} (hk : l[k]? = some x) : ∃ b o, ao = some ⟨b, o, none⟩ ∧ b < w.heap.size ∧ w.cell? ⟨b, o + k, none⟩ = some (.int .i64 x) := by
  obtain ⟨b, o, h1, h2⟩ := h k (.int .i64 x) (by simp [intsV, hk])
  exact ⟨b, o, h1, World.block_lt_of_cell? w _ h2, h2⟩

section
variable {P : Program} {ops : Array Oper} {rest : List Oper} {o : Oper} {a : Act} {w : World} {Q : Exit → Act → World → Prop}
/-- A struct is read, where that is asked for. -/
theorem wpl_ld_g (hgd : Region.wanted o (yielded ops a.tmps) = true) (ty : TypeId) (x : Operand) (ho : o.op = .load ty x) {g i : Nat} {t : TypeId} {cs : Array Value} (vs : Array Value) (hx : a.eval x = .pointer (some ⟨g, i, none⟩)) (d : TypeDesc) (hA : At w g t cs)
    (hu : P.underlying ty = some d) (hd : (match d with | .struct _ | .array _ _ => true | _ => false) = true) (hi : (P.info? ty).map (·.size) = some vs.size) (hvs : (cs.toList.drop i).take vs.size = vs.toList)
    (h : wpList P ops Q rest (a.put o.dst (.agg vs)) w) : wpList P ops Q (o :: rest) a w := by
  have hl : (loadCells ⟨g, i, none⟩ vs.toList.length).run P w = .ok vs.toList.toArray w :=
    run_loadCells_list (P := P) w ⟨g, i, none⟩ vs.toList (fun j v hv => by
      have hadd : (⟨g, i, none⟩ : Addr).add j = ⟨g, i + j, none⟩ := Addr.add_lit _ _ _
      have hj : j < vs.toList.length := (List.getElem?_eq_some_iff.1 hv).1
      rw [Array.length_toList] at hj
      rw [hadd, hA.cell]
      rw [← hvs, List.getElem?_take_of_lt hj, List.getElem?_drop] at hv
      rwa [Array.getElem?_toList] at hv)
  have hs : (loadVar ty ⟨g, i, none⟩).run P w = .ok (.agg vs) w := by
    cases hq : P.info? ty with
    | none => simp [hq] at hi
    | some inf =>
      have hsz : inf.size = vs.size := by simpa [hq] using hi
      have hagg : (isAgg ty).run P w = .ok true w := by
        unfold isAgg
        rw [Sem.run_bind, run_underlying hu w]
        cases d <;> simp_all
      simp only [Array.length_toList, Array.toArray_toList] at hl
      simp [loadVar, Sem.run_bind, hagg, sizeOf, typeInfo, hq, hsz, hl]
  unfold wpList
  rw [if_pos hgd]
  left
  unfold Oper.wp execOp
  simp only [ho, hx, Instr.loadAt, Instr.sureAddr, Sem.run_bind, Sem.run_pure, Result.andThen_ok, hs]
  exact h
end

set_option maxRecDepth 100000 in
set_option maxHeartbeats 4000000 in
theorem rmake_none {r : RV} {s : St} (n op : Int) (w : World) (hta : inTop n s.thr.length = false) :
    Calls Tryz.prog 65 #[r.book s, .int .i64 n, .int .i64 op] w fun e w' => e = .returned (.tuple #[r.book s, .int .i64 0, .int .i64 1]) ∧ Below w.heap.size w w' := by
  have A3 := (At.new w 43 (r.bcells s)).alloc (.cells zero10 43)
  have A6 := At.new1 w (.cells (r.bcells s) 43) 43 zero10
  have hc := fun W => ris_any (r := r) (s := s) n W
  rw [hta] at hc
  go_enter Tryz.func65, Tryz.ntmps65
  go_wp2_with (first
    | (go_at_call 133; refine (hc _).mono ?_; rintro e w1 ⟨rfl, hb1⟩; have B3 := A3.below' hb1; have B6 := A6.below' hb1)
    | (refine wpl_st rfl 43 _ _ rfl (r.bcells s) rfl _ rfl B6 (by kernel_rfl) rfl rfl rfl ?_; intro w2 A2 O2)
    | (refine wpl_ld rfl 43 _ rfl (r.bcells s) rfl _ B3 Tryz.underlying43 rfl (by kernel_rfl) rfl ?_)
    | (refine wpl_ld rfl 43 _ rfl (r.bcells s) rfl _ A3 Tryz.underlying43 rfl (by kernel_rfl) rfl ?_))
  have B2 := ((below_twice w _ _).trans (hb1.mono (by simp; omega))).trans (O2.below (by have := hb1.size; simp at this; omega) fun i hi e => by omega)
  exact bodyPost_ret (v := .tuple #[r.book s, .int .i64 0, .int .i64 1]) (res_cell_tmp2 (fn := Tryz.f65) Tryz.results65 _ _ (w.heap.size + 1) _ _ rfl A2 Tryz.underlying43 rfl (by kernel_rfl)) rfl ⟨rfl, B2⟩

set_option maxRecDepth 100000 in
set_option maxHeartbeats 4000000 in
theorem rmake_lost {r : RV} {s : St} (n op : Int) (w : World) (h : BookIn w r s) (hs : s.ops.length ≤ 4096) (hta : inTop n s.thr.length = true) (hc0 : s.callOf op = none) :
    Calls Tryz.prog 65 #[r.book s, .int .i64 n, .int .i64 op] w fun e w' => e = .returned (.tuple #[r.book s, .int .i64 0, .int .i64 1]) ∧ Below w.heap.size w w' := by
  have A3 := (At.new w 43 (r.bcells s)).alloc (.cells zero10 43)
  have A6 := At.new1 w (.cells (r.bcells s) 43) 43 zero10
  have hc := fun W => ris_any (r := r) (s := s) n W
  rw [hta] at hc
  have hf : ∀ W, Below w.heap.size w W → Calls Tryz.prog 137 #[r.book s, .int .i64 op] W fun e w' => e = .returned (.int .i64 (-1)) ∧ Below W.heap.size W w' := fun W hb => (rfind_any op W (h.below hb) hs).mono fun e w' ⟨v, h1, h2, h3⟩ => by
    rcases h2 with ⟨i, c, _, _, k⟩ | ⟨k, _⟩
    · unfold St.callOf at hc0; rw [hc0] at k; cases k
    · subst k; exact ⟨h1, h3⟩
  go_enter Tryz.func65, Tryz.ntmps65
  go_wp2_with (first
    | (go_at_call 137; refine (hf w1 B1).mono ?_; rintro e w2 ⟨rfl, hb2⟩; have C3 := B3.below' hb2; have C6 := B6.below' hb2)
    | (go_at_call 133; refine (hc _).mono ?_; rintro e w1 ⟨rfl, hb1⟩; have B3 := A3.below' hb1; have B6 := A6.below' hb1; have B1 := (below_twice w (.cells (r.bcells s) 43) (.cells zero10 43)).trans (hb1.mono (by simp; omega)))
    | (refine wpl_st rfl 43 _ _ rfl (r.bcells s) rfl _ rfl C6 (by kernel_rfl) rfl rfl rfl ?_; intro w3 A2 O2)
    | (refine wpl_ld rfl 43 _ rfl (r.bcells s) rfl _ C3 Tryz.underlying43 rfl (by kernel_rfl) rfl ?_)
    | (refine wpl_ld_g rfl 43 _ rfl (r.bcells s) rfl _ B3 Tryz.underlying43 rfl (by kernel_rfl) rfl ?_)
    | (refine wpl_ld rfl 43 _ rfl (r.bcells s) rfl _ A3 Tryz.underlying43 rfl (by kernel_rfl) rfl ?_))
  have B2 := (B1.trans (hb2.mono B1.size)).trans (O2.below (by have := B1.size; have := hb2.size; omega) fun i hi e => by omega)
  exact bodyPost_ret (v := .tuple #[r.book s, .int .i64 0, .int .i64 1]) (res_cell_tmp2 (fn := Tryz.f65) Tryz.results65 _ _ (w.heap.size + 1) _ _ rfl A2 Tryz.underlying43 rfl (by kernel_rfl)) rfl ⟨rfl, B2⟩

set_option maxRecDepth 100000 in
set_option maxHeartbeats 400000 in
theorem rmake_full {r : RV} {s : St} (i : Nat) (t : Thr) (op : Int) (w : World) (h : BookIn w r s) (hok : s.ok) (hs : s.ops.length ≤ 4096) (ht : s.thr[i]? = some t) (hc0 : s.callOf op ≠ none) (hfl : t.made = 2 * s.c.calls) :
    Calls Tryz.prog 65 #[r.book s, .int .i64 i, .int .i64 op] w fun e w' => e = .returned (.tuple #[r.book s, .int .i64 0, .int .i64 3]) ∧ Below w.heap.size w w' := by
  have A3 := (At.new w 43 (r.bcells s)).alloc (.cells zero10 43)
  have A6 := At.new1 w (.cells (r.bcells s) 43) 43 zero10
  have hmb := may_bounds hok.may
  have hct := hok.counts t (List.mem_of_getElem? ht)
  have hil : i < s.thr.length := (List.getElem?_eq_some_iff.1 ht).1
  have hta : inTop (i : Int) s.thr.length = true := by unfold inTop; simp; omega
  have hc := fun W => ris_any (r := r) (s := s) (i : Int) W
  rw [hta] at hc
  have hf : ∀ W, Below w.heap.size w W → Calls Tryz.prog 137 #[r.book s, .int .i64 op] W fun e w' => ∃ v, e = .returned (.int .i64 v) ∧ ¬ v < 0 ∧ Below W.heap.size W w' := fun W hb => (rfind_any op W (h.below hb) hs).mono fun e w' ⟨v, h1, h2, h3⟩ => by
    rcases h2 with ⟨i, c, k, _, _⟩ | ⟨_, k⟩
    · exact ⟨v, h1, by omega, h3⟩
    · unfold St.callOf at hc0; exact (hc0 k).elim
  have e2 : IntKind.i64.wrap (2 * s.c.calls) = 2 * s.c.calls := IntWalk.i64_in _ (by omega)
  obtain ⟨mb, mo, hmeq, mlt, hm0⟩ := ints_read h.ms (k := i) (x := t.made) (by simp [ht])
  have HM := Lib.hid (And.intro hmeq hm0)
  have HF := Lib.hid hf
  have HB := Lib.hid hmb
  clear hmeq hm0 hf h hmb hct hs hc0
  have hfl' : (t.made == 2 * s.c.calls) = true := by simpa using hfl
  go_enter Tryz.func65, Tryz.ntmps65
  go_wp2_with (first
    | (go_at_call 137; refine (HF.out w1 B1).mono ?_; rintro e w2 ⟨fv, rfl, hf0, hb2⟩; have C3 := B3.below' hb2; have C6 := B6.below' hb2
       obtain ⟨⟨z0, z1, z2, z3, z4, z5, z6, z7, z8, z9⟩, zf, zl⟩ := at10 C3
       rw [HM.out.1] at z7
       have hm2 : w2.cell? ⟨mb, mo + i, none⟩ = some (.int .i64 t.made) := by
         have := ((B1.trans (hb2.mono B1.size)).cell (p := ⟨mb, mo + i, none⟩) mlt)
         rw [this]; exact HM.out.2)
    | (go_at_call 133; refine (hc _).mono ?_; rintro e w1 ⟨rfl, hb1⟩; have B3 := A3.below' hb1; have B6 := A6.below' hb1; have B1 := (below_twice w (.cells (r.bcells s) 43) (.cells zero10 43)).trans (hb1.mono (by simp; omega)))
    | (refine wpl_st rfl 43 _ _ rfl (r.bcells s) rfl _ rfl C6 (by kernel_rfl) rfl rfl rfl ?_; intro w3 A2 O2)
    | (refine wpl_ld rfl 43 _ rfl (r.bcells s) rfl _ C3 Tryz.underlying43 rfl (by kernel_rfl) rfl ?_)
    | (refine wpl_ld_g rfl 43 _ rfl (r.bcells s) rfl _ B3 Tryz.underlying43 rfl (by kernel_rfl) rfl ?_)
    | (refine wpl_ld rfl 43 _ rfl (r.bcells s) rfl _ A3 Tryz.underlying43 rfl (by kernel_rfl) rfl ?_))
  have B2 := (B1.trans (hb2.mono B1.size)).trans (O2.below (by have := B1.size; have := hb2.size; omega) fun i hi e => by omega)
  exact bodyPost_ret (v := .tuple #[r.book s, .int .i64 0, .int .i64 3]) (res_cell_tmp2 (fn := Tryz.f65) Tryz.results65 _ _ (w.heap.size + 1) _ _ rfl A2 Tryz.underlying43 rfl (by kernel_rfl)) rfl ⟨rfl, B2⟩

theorem nodeinfo : (Tryz.prog.info? 197).map (fun i => (i.zero, i.size, i.bytes)) = some (some (.agg #[.int .i64 0, .int .i64 0]), 2, 16) := by kernel_rfl
theorem nodeRows_len (l : List (Int × Int)) : (nodeRows l).length = l.length * 2 := by
  unfold nodeRows
  induction l with
  | nil => rfl
  | cons a l ih => rw [List.flatMap_cons, List.length_append, ih, List.length_cons, Nat.add_mul]; show 2 + _ = _; omega
theorem nodeRows_one (l : List (Int × Int)) : ∀ u ∈ nodeRows l, u.oneCell' = true := by
  intro u hu
  obtain ⟨p, _, hp⟩ := List.mem_flatMap.1 hu
  simp [nodeRow] at hp
  rcases hp with rfl | rfl <;> rfl
theorem nodeRow_one (p : Int × Int) : ∀ u ∈ nodeRow p, u.oneCell' = true := by
  intro u hu
  simp [nodeRow] at hu
  rcases hu with rfl | rfl <;> rfl

set_option maxRecDepth 100000 in
set_option maxHeartbeats 1000000 in
theorem rmake_ok {r : RV} {s : St} (i : Nat) (t : Thr) (op : Int) (w : World) (h : BookIn w r s) (hok : s.ok) (hs : s.ops.length ≤ 4096) (hns : s.nodes.length ≤ 8190) (ht : s.thr[i]? = some t) (hc0 : s.callOf op ≠ none) (hfl : t.made ≠ 2 * s.c.calls) :
    Calls Tryz.prog 65 #[r.book s, .int .i64 i, .int .i64 op] w fun e w' => ∃ (g1 c1 g2 c2 : Nat), e = .returned (.tuple #[.agg #[.int .i64 s.c.threads, .int .i64 s.c.buckets, .int .i64 s.c.inserts, .int .i64 s.c.fuel, .int .i64 s.c.calls, .slice r.cs.1 s.thr.length r.cs.2, .slice r.is.1 s.thr.length r.is.2, .slice (some ⟨g1, 0, none⟩) s.thr.length c1, .slice r.os.1 s.ops.length r.os.2, .slice (some ⟨g2, 0, none⟩) (s.nodes.length + 1) c2], .int .i64 (1 + s.c.buckets + i * (2 * s.c.calls) + t.made), .int .i64 0]) ∧
      ReadAt w' (some ⟨g1, 0, none⟩) (intsV ((s.thr.map Thr.made).set i (t.made + 1))) ∧ ReadAt w' (some ⟨g2, 0, none⟩) (nodeRows s.nodes ++ nodeRow (1 + s.c.buckets + i * (2 * s.c.calls) + t.made, op)) ∧ Below w.heap.size w w' ∧ w.heap.size ≤ g1 ∧ w.heap.size ≤ g2 := by
  have A3 := (At.new w 43 (r.bcells s)).alloc (.cells zero10 43)
  have A6 := At.new1 w (.cells (r.bcells s) 43) 43 zero10
  have hmb := may_bounds hok.may
  have hct := hok.counts t (List.mem_of_getElem? ht)
  have hil : i < s.thr.length := (List.getElem?_eq_some_iff.1 ht).1
  have hta : inTop (i : Int) s.thr.length = true := by unfold inTop; simp; omega
  have hc := fun W => ris_any (r := r) (s := s) (i : Int) W
  rw [hta] at hc
  have hf : ∀ W, Below w.heap.size w W → Calls Tryz.prog 137 #[r.book s, .int .i64 op] W fun e w' => ∃ v, e = .returned (.int .i64 v) ∧ ¬ v < 0 ∧ Below W.heap.size W w' := fun W hb => (rfind_any op W (h.below hb) hs).mono fun e w' ⟨v, h1, h2, h3⟩ => by
    rcases h2 with ⟨i, c, k, _, _⟩ | ⟨_, k⟩
    · exact ⟨v, h1, by omega, h3⟩
    · unfold St.callOf at hc0; exact (hc0 k).elim
  have e2 : IntKind.i64.wrap (2 * s.c.calls) = 2 * s.c.calls := IntWalk.i64_in _ (by omega)
  obtain ⟨mb, mo, hmeq, mlt, hm0⟩ := ints_read h.ms (k := i) (x := t.made) (by simp [ht])
  have HM := Lib.hid (And.intro hmeq hm0)
  have HF := Lib.hid hf
  have HB := Lib.hid hmb
  have hfl' : (t.made == 2 * s.c.calls) = false := by simpa using hfl
  have hmore := fun W (hb : Below w.heap.size w W) => rmore_any (l := s.thr.map Thr.made) (ao := r.ms.1) (cap := r.ms.2) i W (h.ms.below hb) (by simpa using hil) (by rw [List.length_map]; have := hok.thr; omega) (fun x hx => by
    obtain ⟨u, hu, rfl⟩ := List.mem_map.1 hx
    have := hok.counts u hu
    omega)
  simp only [List.length_map] at hmore
  have hgd : (s.thr.map Thr.made).getD i 0 = t.made := by rw [List.getD_eq_getElem?_getD]; simp [ht]
  rw [hgd] at hmore
  have hnode := fun W => rnode_any s.c (i : Int) t.made W hok.may (by rw [← hok.thr]; omega) (by omega)
  have HN := Lib.hid (And.intro h.ns h.ns0)
  have HO := Lib.hid hmore
  have HNo := Lib.hid hnode
  obtain ⟨i0, hi0, hz0, hz1, hz2⟩ := info_parts nodeinfo
  clear hmeq hm0 hf h hmb hct hs hc0 hmore hnode hgd hfl
  go_enter Tryz.func65, Tryz.ntmps65
  go_wp2_with (first
    | (refine wpl_st rfl 43 _ _ rfl #[.int .i64 s.c.threads, .int .i64 s.c.buckets, .int .i64 s.c.inserts, .int .i64 s.c.fuel, .int .i64 s.c.calls, .slice r.cs.1 s.thr.length r.cs.2, .slice r.is.1 s.thr.length r.is.2, .slice (some ⟨g1, 0, none⟩) s.thr.length c1, .slice r.os.1 s.ops.length r.os.2, .slice (some ⟨g3, 0, none⟩) (s.nodes.length + 1) c3] rfl _ rfl F86 (by kernel_rfl) rfl rfl rfl ?_; intro w9 A9 O9)
    | (refine wpl_ld rfl 43 _ rfl #[.int .i64 s.c.threads, .int .i64 s.c.buckets, .int .i64 s.c.inserts, .int .i64 s.c.fuel, .int .i64 s.c.calls, .slice r.cs.1 s.thr.length r.cs.2, .slice r.is.1 s.thr.length r.is.2, .slice (some ⟨g1, 0, none⟩) s.thr.length c1, .slice r.os.1 s.ops.length r.os.2, .slice (some ⟨g3, 0, none⟩) (s.nodes.length + 1) c3] rfl _ A8 Tryz.underlying43 rfl (by kernel_rfl) rfl ?_)
    | (refine wpl_st rfl 41 _ _ rfl #[.int .i64 s.c.threads, .int .i64 s.c.buckets, .int .i64 s.c.inserts, .int .i64 s.c.fuel, .int .i64 s.c.calls, .slice r.cs.1 s.thr.length r.cs.2, .slice r.is.1 s.thr.length r.is.2, .slice (some ⟨g1, 0, none⟩) s.thr.length c1, .slice r.os.1 s.ops.length r.os.2, .slice (some ⟨g3, 0, none⟩) (s.nodes.length + 1) c3] rfl _ rfl F73 (by kernel_rfl) rfl rfl rfl ?_; intro w8 A8 O8; have F86 := F76.only O8 (Nat.succ_ne_self _))
    | (at_builtin; refine wpl_app rfl (.tmp 47) (.tmp 51) 41 rfl w5.heap.size 197 i0 _ 2 16 Tryz.underlying41 hi0 hz0 hz1 hz2 rfl (by decide) rfl (ownsRow_still R6 ((Below.refl _ w6).alloc (Nat.le_refl _) _)) rfl (news := nodeRow (1 + s.c.buckets + i * (2 * s.c.calls) + t.made, op)) rfl (readAt_row (World.ownsRow_lit (base := 0) (size := 2) w6 #[.int .i64 (1 + s.c.buckets + i * (2 * s.c.calls) + t.made), .int .i64 op] 1 (Nat.zero_le _) (by unfold maxLen; omega) rfl)) (fun e _ => by omega) (nodeRow_one _) (by unfold maxLen; omega) (by omega) (by have := bb6.size; simp; omega) ?_; intro g3 c3 w7 R7 G7 g3b
       have bb7 := grown_below (bb6.alloc bb6.size (.cells #[.int .i64 (1 + s.c.buckets + i * (2 * s.c.calls) + t.made), .int .i64 op] 197)) G7 g2b (by have := bb6.size; simp; omega)
       have F73 := A5.below' bb7
       have F76 := E56.below' bb7)
    | (at_builtin; refine wpl_app rfl (.tmp 44) (.tmp 46) 41 rfl w5.heap.size 197 i0 _ 2 16 Tryz.underlying41 hi0 hz0 hz1 hz2 rfl (by decide) rfl (World.ownsRow_lit w5 #[] 0 (Nat.le_refl _) (by unfold maxLen; omega) rfl) rfl (news := nodeRows s.nodes) (nodeRows_len s.nodes) (HN.out.1.below (D5.trans (((Below.refl _ w5).alloc (Nat.le_refl _) _).mono D5.size))) (fun e _ => by rw [HN.out.2 (List.eq_nil_of_length_eq_zero e)]) (nodeRows_one _) (by unfold maxLen; omega) (by omega) (by simp) ?_; intro g2 c2 w6 R6 G6 g2b
       rw [Nat.zero_add, List.nil_append] at R6
       rw [Nat.zero_add]
       have bb6 : Below w5.heap.size w5 w6 := grown_below ((Below.refl _ w5).alloc (Nat.le_refl _) (.cells #[] 197)) G6 (Nat.le_refl _) (by simp)
       clear z9)
    | (refine wpl_st rfl 39 _ _ rfl #[.int .i64 s.c.threads, .int .i64 s.c.buckets, .int .i64 s.c.inserts, .int .i64 s.c.fuel, .int .i64 s.c.calls, .slice r.cs.1 s.thr.length r.cs.2, .slice r.is.1 s.thr.length r.is.2, .slice (some ⟨g1, 0, none⟩) s.thr.length c1, .slice r.os.1 s.ops.length r.os.2, .slice r.ns.1 s.nodes.length r.ns.2] rfl _ rfl E43 (by kernel_rfl) rfl rfl rfl ?_; intro w5 A5 O5; have E56 := E46.only O5 (Nat.succ_ne_self _); have D5 := D4.trans (O5.below D4.size fun i hi e => Nat.lt_irrefl _ ((show i = w.heap.size from e) ▸ hi))
       have z9 : w5.cell? ⟨w.heap.size, 9, none⟩ = some (.slice r.ns.1 s.nodes.length r.ns.2) := A5.cell 9
       have l5 : w.heap.size < w5.heap.size := A5.lt)
    | (go_at_call 134; refine (HO.out w3 D3).mono ?_; rintro e w4 ⟨g1, c1, rfl, R4, hb4, hg1⟩; clear z7; have E43 := E3.below' hb4; have E46 := E6.below' hb4; have D4 := D3.trans (hb4.mono D3.size))
    | (go_at_call 137; refine (HF.out w1 B1).mono ?_; rintro e w2 ⟨fv, rfl, hf0, hb2⟩; have C3 := B3.below' hb2; have C6 := B6.below' hb2; have D2 := B1.trans (hb2.mono B1.size)
       obtain ⟨⟨z0, z1, z2, z3, z4, z5, z6, z7, z8, z9⟩, zf, zl⟩ := at10 C3
       rw [HM.out.1] at z7
       have hm2 : w2.cell? ⟨mb, mo + i, none⟩ = some (.int .i64 t.made) := by
         have := (D2.cell (p := ⟨mb, mo + i, none⟩) mlt)
         rw [this]; exact HM.out.2)
    | (go_at_call 133; refine (hc _).mono ?_; rintro e w1 ⟨rfl, hb1⟩; have B3 := A3.below' hb1; have B6 := A6.below' hb1; have B1 := (below_twice w (.cells (r.bcells s) 43) (.cells zero10 43)).trans (hb1.mono (by simp; omega)))
    | (go_at_call 138; refine (HNo.out _).mono ?_; rintro e w3 ⟨rfl, hb3⟩; clear z0 z1 z2 z3 z4 z5 z6 z7 z8 z9 zf zl hm2; have E3 := C3.below' hb3; have E6 := C6.below' hb3; have D3 := D2.trans (hb3.mono D2.size)
       have z7 : w3.cell? ⟨w.heap.size, 7, none⟩ = some (.slice r.ms.1 s.thr.length r.ms.2) := E3.cell 7)
    | (refine wpl_ld rfl 35 _ rfl s.c.cells rfl _ C3 Tryz.underlying35 rfl (by kernel_rfl) rfl ?_)
    | (refine wpl_ld_g rfl 43 _ rfl (r.bcells s) rfl _ B3 Tryz.underlying43 rfl (by kernel_rfl) rfl ?_)
    | (refine wpl_ld rfl 43 _ rfl (r.bcells s) rfl _ A3 Tryz.underlying43 rfl (by kernel_rfl) rfl ?_))
  have l3 := E3.lt
  have l36 := E6.lt
  have n3 := hb3.size
  have ls4 := hb4.size
  have ls5 := O5.size
  have ls7 := bb7.size
  have D7 := D5.trans (bb7.mono D5.size)
  have D8 := D7.trans (O8.below D7.size fun j hj e => Nat.lt_irrefl _ ((show j = w.heap.size from e) ▸ hj))
  have D9 := D8.trans (O9.below D8.size fun j hj e => by have e' : j = w.heap.size + 1 := e; omega)
  have ne1 : ∀ (g : Nat), w3.heap.size ≤ g → ∀ b o, (some (⟨g, 0, none⟩ : Addr)) = some ⟨b, o, none⟩ → ¬ b = w.heap.size ∧ ¬ b = w.heap.size + 1 := by
    intro g hg b o e
    injection e with e
    injection e with e1 e2
    omega
  have q1 := (((R4.only O5 fun b o e _ => (ne1 g1 hg1 b o e).1).below bb7).only O8 fun b o e _ => (ne1 g1 hg1 b o e).1).only O9 fun b o e _ => (ne1 g1 hg1 b o e).2
  have q3 := ((readAt_row R7).only O8 fun b o e _ => (ne1 g3 (by omega) b o e).1).only O9 fun b o e _ => (ne1 g3 (by omega) b o e).2
  exact bodyPost_ret (v := .tuple #[.agg #[.int .i64 s.c.threads, .int .i64 s.c.buckets, .int .i64 s.c.inserts, .int .i64 s.c.fuel, .int .i64 s.c.calls, .slice r.cs.1 s.thr.length r.cs.2, .slice r.is.1 s.thr.length r.is.2, .slice (some ⟨g1, 0, none⟩) s.thr.length c1, .slice r.os.1 s.ops.length r.os.2, .slice (some ⟨g3, 0, none⟩) (s.nodes.length + 1) c3], .int .i64 (1 + s.c.buckets + i * (2 * s.c.calls) + t.made), .int .i64 0]) (res_cell_tmp2 (fn := Tryz.f65) Tryz.results65 _ _ (w.heap.size + 1) _ _ rfl A9 Tryz.underlying43 rfl (by kernel_rfl)) rfl ⟨g1, c1, g3, c3, rfl, q1, q3, D9, by omega, by omega⟩

/-- corrieref07.Make. -/
theorem rmake_any {r : RV} {s : St} (n op : Int) (w : World) (h : BookIn w r s) (hok : s.ok) (hs : s.ops.length ≤ 4096) (hns : s.nodes.length ≤ 8190) :
    Calls Tryz.prog 65 #[r.book s, .int .i64 n, .int .i64 op] w fun e w' => ∃ r' : RV, e = .returned (.tuple #[r'.book (s.make n op).1, .int .i64 (s.make n op).2.1, .int .i64 (s.make n op).2.2]) ∧ BookIn w' r' (s.make n op).1 ∧ Below w.heap.size w w' ∧ BookFr w.heap.size r r' := by
  unfold St.make
  rcases thrAt_cases s.thr n with ⟨i, t, rfl, hi, ht, hta⟩ | ⟨hta, hn⟩
  · rw [hta]
    dsimp only
    cases hc : s.callOf op with
    | none =>
      exact (rmake_lost i op w h hs (by unfold inTop; simp; omega) hc).mono fun e w' ⟨a, b⟩ => ⟨r, a, h.below b, b, BookFr.refl _ _⟩
    | some c =>
      rw [if_neg (by simp)]
      split
      · rename_i hf
        exact (rmake_full i t op w h hok hs ht (by rw [hc]; simp) hf).mono fun e w' ⟨a, b⟩ => ⟨r, a, h.below b, b, BookFr.refl _ _⟩
      · rename_i hf
        refine (rmake_ok i t op w h hok hs hns ht (by rw [hc]; simp) hf).mono fun e w' ⟨g1, c1, g2, c2, a, b1, b2, b3, l1, l2⟩ => ⟨{ r with ms := (some ⟨g1, 0, none⟩, c1), ns := (some ⟨g2, 0, none⟩, c2) }, ?_, ?_, b3, ⟨.inl rfl, .inl rfl, .inr ⟨g1, rfl, l1⟩, .inl rfl, .inr ⟨g2, rfl, l2⟩⟩⟩
        · rw [a]
          simp [RV.book]
        · have hb := h.below b3
          have e1 : ∀ f : Thr → Int, f { t with made := t.made + 1 } = f t → (s.thr.set i { t with made := t.made + 1 }).map f = s.thr.map f := fun f hf => by
            rw [List.map_set, hf]
            apply List.ext_getElem? 
            intro j
            by_cases hj : i = j
            · subst hj; rw [List.getElem?_set_self (by simpa using hi)]; simp [ht]
            · rw [List.getElem?_set_ne hj]
          refine ⟨?_, ?_, ?_, hb.os, ?_, hb.os0, fun e => ?_⟩
          · show ReadAt w' r.cs.1 (intsV ((s.thr.set (i : Int).toNat { t with made := t.made + 1 }).map Thr.calls))
            rw [Int.toNat_natCast, e1 Thr.calls rfl]; exact hb.cs
          · show ReadAt w' r.is.1 (intsV ((s.thr.set (i : Int).toNat { t with made := t.made + 1 }).map Thr.inserts))
            rw [Int.toNat_natCast, e1 Thr.inserts rfl]; exact hb.is
          · show ReadAt w' (some ⟨g1, 0, none⟩) (intsV ((s.thr.set (i : Int).toNat { t with made := t.made + 1 }).map Thr.made))
            rw [Int.toNat_natCast, List.map_set]; exact b1
          · show ReadAt w' (some ⟨g2, 0, none⟩) (nodeRows (s.nodes ++ [(1 + s.c.buckets + (i : Int) * (2 * s.c.calls) + t.made, op)]))
            unfold nodeRows
            rw [List.flatMap_append]
            simpa [nodeRows] using b2
          · exact absurd e (by simp)
  · rw [hta]
    exact (rmake_none n op w (by unfold inTop; simp; omega)).mono fun e w' ⟨a, b⟩ => ⟨r, a, h.below b, b, BookFr.refl _ _⟩
end Go.Proofs.YtccmjljlfgbicaaGreat
