/- The contract of the book's Begin: an operation is written down. -/
import Derived.Test.YtccmjljlfgbicaaGreatBookq
namespace Go.Proofs.YtccmjljlfgbicaaGreat
open Go.ChangeShapes Go.WideShapes Go.ChangeAt Go.RowKit

theorem thrCells_set0 (l : List Thr) (i : Nat) (t : Thr) (x : Int) (h : l[i]? = some t) : (thrCells l).setIfInBounds (i * 3) (.int .i64 x) = thrCells (l.set i { t with calls := x }) := by
  unfold thrCells
  apply Array.ext'
  simp only [Array.toList_setIfInBounds]
  induction l generalizing i with
  | nil => cases h
  | cons a l ih =>
    cases i with
    | zero => cases h; rfl
    | succ i =>
      have e : (i + 1) * 3 = i * 3 + 3 := by omega
      have := ih i h
      rw [e]
      simp only [List.flatMap_cons, List.set_cons_succ, Thr.cells, List.cons_append, List.nil_append] at this ⊢
      rw [this]
theorem thrCells_set1 (l : List Thr) (i : Nat) (t : Thr) (x : Int) (h : l[i]? = some t) : (thrCells l).setIfInBounds (i * 3 + 1) (.int .i64 x) = thrCells (l.set i { t with inserts := x }) := by
  unfold thrCells
  apply Array.ext'
  simp only [Array.toList_setIfInBounds]
  induction l generalizing i with
  | nil => cases h
  | cons a l ih =>
    cases i with
    | zero => cases h; rfl
    | succ i =>
      have e : (i + 1) * 3 + 1 = i * 3 + 1 + 3 := by omega
      have := ih i h
      rw [e]
      simp only [List.flatMap_cons, List.set_cons_succ, Thr.cells, List.cons_append, List.nil_append] at this ⊢
      rw [this]
theorem thrCells_set2 (l : List Thr) (i : Nat) (t : Thr) (x : Int) (h : l[i]? = some t) : (thrCells l).setIfInBounds (i * 3 + 2) (.int .i64 x) = thrCells (l.set i { t with made := x }) := by
  unfold thrCells
  apply Array.ext'
  simp only [Array.toList_setIfInBounds]
  induction l generalizing i with
  | nil => cases h
  | cons a l ih =>
    cases i with
    | zero => cases h; rfl
    | succ i =>
      have e : (i + 1) * 3 + 2 = i * 3 + 2 + 3 := by omega
      have := ih i h
      rw [e]
      simp only [List.flatMap_cons, List.set_cons_succ, Thr.cells, List.cons_append, List.nil_append] at this ⊢
      rw [this]

/-- An operation is written down: the state, the operation, the error's number. -/
def St.begin (s : St) (n : Int) (c : GCall) : St × Int × Int :=
  match thrAt s.thr n with
  | none => (s, 0, 1)
  | some t =>
    if c.kind < 1 ∨ 4 < c.kind then (s, 0, 1)
    else if t.calls = s.c.calls then (s, 0, 2)
    else if c.kind = 1 ∧ t.inserts = s.c.inserts then ({ s with thr := s.thr.set n.toNat { t with calls := t.calls + 1 } }, 0, 3)
    else ({ s with thr := s.thr.set n.toNat { t with calls := t.calls + 1, inserts := if c.kind = 1 then t.inserts + 1 else t.inserts }, ops := s.ops ++ [(n * s.c.calls + t.calls, c)] }, n * s.c.calls + t.calls, 0)

theorem Holds.tfacts {k : Blks} {s : St} {W : World} {i : Nat} {t : Thr} (h : Holds k s W) (ht : s.thr[i]? = some t) :
    W.cell? ⟨k.bt, i * 3, none⟩ = some (.int .i64 t.calls) ∧ W.cell? ⟨k.bt, i * 3 + 1, none⟩ = some (.int .i64 t.inserts) ∧ W.cell? ⟨k.bt, i * 3 + 2, none⟩ = some (.int .i64 t.made) ∧ W.frozen? ⟨k.bt, i * 3, none⟩ = false ∧ W.frozen? ⟨k.bt, i * 3 + 1, none⟩ = false ∧ W.frozen? ⟨k.bt, i * 3 + 2, none⟩ = false ∧ k.bt < W.heap.size := by
  obtain ⟨f0, f1, f2⟩ := flat3_get s.thr i t ht
  exact ⟨(h.thr.cell _).trans f0, (h.thr.cell _).trans f1, (h.thr.cell _).trans f2, h.thr.frozen _, h.thr.frozen _, h.thr.frozen _, h.thr.lt⟩
theorem ok_thr {s : St} (h : s.ok) {i : Nat} {t t' : Thr} (ht : s.thr[i]? = some t) (h1 : t.calls ≤ t'.calls) (h2 : t.made ≤ t'.made)
    (hb : 0 ≤ t'.calls ∧ t'.calls ≤ s.c.calls ∧ 0 ≤ t'.inserts ∧ t'.inserts ≤ s.c.inserts ∧ 0 ≤ t'.made ∧ t'.made ≤ 2 * s.c.calls) : St.ok { s with thr := s.thr.set i t' } := by
  have hi : i < s.thr.length := (List.getElem?_eq_some_iff.1 ht).1
  have hget : ∀ (j : Nat) (u : Thr), s.thr[j]? = some u → ∃ u' : Thr, (s.thr.set i t')[j]? = some u' ∧ u.calls ≤ u'.calls ∧ u.made ≤ u'.made := by
    intro j u hu
    by_cases e : i = j
    · subst e
      rw [ht] at hu; cases hu
      exact ⟨t', by simp [hi], h1, h2⟩
    · exact ⟨u, by rw [List.getElem?_set_ne e]; exact hu, by omega, by omega⟩
  refine ⟨h.may, by rw [List.length_set]; exact h.thr, h.len, h.words, ?_, ?_, ?_⟩
  · intro u hu
    rcases List.mem_or_eq_of_mem_set hu with hu | rfl
    · exact h.counts u hu
    · exact hb
  · intro p hp
    obtain ⟨hf, j, u, hu, l1, l2⟩ := h.ops p hp
    obtain ⟨u', hu', e1, _⟩ := hget j u hu
    exact ⟨hf, j, u', hu', l1, by show p.1 < j * s.c.calls + u'.calls; omega⟩
  · intro p hp
    obtain ⟨j, u, hu, l1, l2⟩ := h.nodes p hp
    obtain ⟨u', hu', _, e1⟩ := hget j u hu
    exact ⟨j, u', hu', l1, by show p.1 < 1 + s.c.buckets + j * (2 * s.c.calls) + u'.made; omega⟩

/-- The threads' block turned alone. -/
theorem Holds.threads {k : Blks} {s : St} {W W' : World} (h : Holds k s W) {l : List Thr} (ho : Only (fun i => i = k.bt) W W') (hA : At W' k.bt 189 (thrCells l)) (hlen : l.length = s.thr.length) (hok : St.ok { s with thr := l }) : Holds k { s with thr := l } W' :=
  ⟨h.world.only ho (h.world.ne h.thr (by decide)), h.cells.only ho (h.cells.head.ne h.thr (by decide)) (h.cells.words.ne h.thr (by decide)), by rw [hlen]; exact h.book.only ho (h.book.ne h.thr (by decide)), hA, h.ops.only ho (h.ops.ne h.thr), h.nodes.only ho (h.nodes.ne h.thr), h.two, hok⟩
theorem Holds.bbt {k : Blks} {s : St} {W : World} (h : Holds k s W) : ¬ k.bb = k.bt := h.book.ne h.thr (by decide)
theorem only_bt {k : Blks} {W W' : World} (ho : Only (fun i => i = k.bt) W W') : Only (Own k) W W' := ho.mono fun _ _ h => .inr (.inr (.inl h))

theorem putObj_heap {w : World} {g : Nat} {o : Obj} {i : Nat} (h : i ≠ g) : (putObj w g o).heap[i]? = w.heap[i]? := by
  show (w.heap.setIfInBounds g o)[i]? = _
  simp [Ne.symm h]
theorem putObj_cell {w : World} {g : Nat} {o : Obj} {b i : Nat} (h : b ≠ g) : (putObj w g o).cell? ⟨b, i, none⟩ = w.cell? ⟨b, i, none⟩ :=
  World.cell?_of_block (putObj_heap h)
theorem putObj_map {w : World} {g : Nat} {es es' : List (Int × Value)} (h : MapAt w g es) : MapAt (putObj w g (.map (mkMap es') es'.length)) g es' := by
  show (w.heap.setIfInBounds g _)[g]? = _
  simp [h.lt]
theorem putObj_only {w : World} {g : Nat} {o : Obj} : Only (fun j => j = g) w (putObj w g o) :=
  ⟨rfl, rfl, rfl, by simp [putObj], fun i _ hn => putObj_heap hn⟩
theorem Holds.opsPut {k : Blks} {s : St} {W W' : World} (h : Holds k s W) {l : List (Int × GCall)} (ho : Only (fun i => i = k.bo) W W') (hA : MapAt W' k.bo (opsV l)) (hok : St.ok { s with ops := l }) : Holds k { s with ops := l } W' :=
  ⟨h.world.only ho (h.ops.ne h.world).symm, h.cells.only ho (h.ops.ne h.cells.head).symm (h.ops.ne h.cells.words).symm, h.book.only ho (h.ops.ne h.book).symm, h.thr.only ho (h.ops.ne h.thr).symm, hA, h.nodes.only ho h.two.symm, h.two, hok⟩
theorem Holds.nodesPut {k : Blks} {s : St} {W W' : World} (h : Holds k s W) {l : List (Int × Int)} (ho : Only (fun i => i = k.bn) W W') (hA : MapAt W' k.bn (nodesV l)) (hok : St.ok { s with nodes := l }) : Holds k { s with nodes := l } W' :=
  ⟨h.world.only ho (h.nodes.ne h.world).symm, h.cells.only ho (h.nodes.ne h.cells.head).symm (h.nodes.ne h.cells.words).symm, h.book.only ho (h.nodes.ne h.book).symm, h.thr.only ho (h.nodes.ne h.thr).symm, h.ops.only ho h.two, hA, h.two, hok⟩

/-- The operation that comes next is new. -/
theorem fresh_op {s : St} (h : s.ok) {i : Nat} {t : Thr} (ht : s.thr[i]? = some t) (hlt : t.calls < s.c.calls) : look1 s.ops (i * s.c.calls + t.calls) = none := by
  cases hl : look1 s.ops (i * s.c.calls + t.calls) with
  | none => rfl
  | some c =>
    exfalso
    obtain ⟨_, j, u, hu, l1, l2⟩ := h.ops _ (look1_mem hl)
    simp only [] at l1 l2
    have hc := may_bounds h.may
    have ct := h.counts t (List.mem_of_getElem? ht)
    have cu := h.counts u (List.mem_of_getElem? hu)
    rcases Nat.lt_trichotomy i j with e | e | e
    · have : ((i : Int) + 1) * s.c.calls ≤ j * s.c.calls := Int.mul_le_mul_of_nonneg_right (by omega) (by omega)
      rw [Int.add_mul] at this
      omega
    · subst e
      rw [ht] at hu; cases hu
      omega
    · have : ((j : Int) + 1) * s.c.calls ≤ i * s.c.calls := Int.mul_le_mul_of_nonneg_right (by omega) (by omega)
      rw [Int.add_mul] at this
      omega

theorem opsV_snoc (l : List (Int × GCall)) (n : Int) (c : GCall) : opsV l ++ [(n, c.v)] = opsV (l ++ [(n, c)]) := by simp [opsV]
theorem putOps {w : World} {g : Nat} {l : List (Int × GCall)} {n : Int} {c : GCall} (h : MapAt w g (opsV l)) : MapAt (putObj w g (.map (mkMap (opsV l ++ [(n, c.v)])) ((opsV l).length + 1))) g (opsV (l ++ [(n, c)])) := by
  have e : (opsV l).length + 1 = (opsV l ++ [(n, c.v)]).length := by simp
  rw [e, opsV_snoc]
  exact putObj_map h
theorem ok_ops {s : St} (h : s.ok) {i : Nat} {t : Thr} {n : Int} {c : GCall} (ht : s.thr[i]? = some t) (hc : c.fits) (h1 : i * s.c.calls ≤ n) (h2 : n < i * s.c.calls + t.calls) : St.ok { s with ops := s.ops ++ [(n, c)] } := by
  refine ⟨h.may, h.thr, h.len, h.words, h.counts, ?_, h.nodes⟩
  intro p hp
  rcases List.mem_append.1 hp with hp | hp
  · exact h.ops p hp
  · obtain rfl := List.mem_singleton.1 hp
    exact ⟨hc, i, t, ht, h1, h2⟩

/-- The cells of a call at a block. -/
def CallAt (w : World) (b : Nat) (c : GCall) : Prop := w.cell? ⟨b, 0, none⟩ = some (.int .i64 c.kind) ∧ w.cell? ⟨b, 1, none⟩ = some (.int .u64 c.key) ∧ w.cell? ⟨b, 2, none⟩ = some (.int .u64 c.val) ∧ w.cell? ⟨b, 3, none⟩ = some (.int .i64 c.limit)
theorem CallAt.below {w w1 : World} {b B : Nat} {c : GCall} (h : CallAt w b c) (hb : Below B w w1) (hB : b < B) : CallAt w1 b c := by
  obtain ⟨h0, h1, h2, h3⟩ := h
  refine ⟨?_, ?_, ?_, ?_⟩ <;> (rw [hb.cell hB]; assumption)
theorem CallAt.drewN {w : World} {b : Nat} {c : GCall} (h : CallAt w b c) (n : Nat) : CallAt (w.drewN n) b c := h
theorem CallAt.far {w : World} {b : Nat} {c : GCall} (h : CallAt w b c) {p : Addr} (hp : b ≠ p.block) (u : Value) : CallAt (w.setCell p u) b c := by
  obtain ⟨h0, h1, h2, h3⟩ := h
  refine ⟨?_, ?_, ?_, ?_⟩ <;> (rw [World.cell?_setCell_other _ _ _ _ (fun e => hp (by rw [e]))]; assumption)
theorem callAt_new (w : World) (c : GCall) (t : TypeId) : CallAt (w.alloc (.cells #[.int .i64 c.kind, .int .u64 c.key, .int .u64 c.val, .int .i64 c.limit] t)) w.heap.size c := by
  refine ⟨?_, ?_, ?_, ?_⟩ <;> go_simp

set_option maxRecDepth 100000 in
set_option maxHeartbeats 2000000 in
theorem begin_any {k : Blks} {s : St} (n : Int) (c : GCall) (w : World) (h : Holds k s w) (hc : c.fits) :
    Calls Tryz.prog 57 #[.pointer (some ⟨k.bb, 0, none⟩), .int .i64 n, c.v] w fun e w' => e = .returned (.tuple #[.int .i64 (s.begin n c).2.1, .int .i64 (s.begin n c).2.2]) ∧ Holds k (s.begin n c).1 w' ∧ Only (Own k) w w' := by
  rcases thrAt_cases s.thr n with ⟨i, t, rfl, hi, ht, hta⟩ | ⟨hta, hn⟩
  · by_cases hk : c.kind < 1 ∨ 4 < c.kind
    · have Hb := Lib.hid (show s.begin (i : Int) c = (s, 0, 1) by unfold St.begin; rw [hta]; exact if_pos hk)
      clear hta ht
      rcases hk with hk | hk
      · go_enter Tryz.func57, Tryz.ntmps57
        go_wp2_with (first | (go_at_call 126; refine (thread_in i _ (h.alloc _) hi).mono ?_; rintro e w1 ⟨rfl, rfl⟩))
        go_ret2
        rw [Hb.out]
        exact ⟨rfl, h.alloc _, (Only.refl _ _).alloc _⟩
      · have hk' : ¬ c.kind < 1 := by omega
        go_enter Tryz.func57, Tryz.ntmps57
        go_wp2_with (first | (go_at_call 126; refine (thread_in i _ (h.alloc _) hi).mono ?_; rintro e w1 ⟨rfl, rfl⟩))
        go_ret2
        rw [Hb.out]
        exact ⟨rfl, h.alloc _, (Only.refl _ _).alloc _⟩
    · obtain ⟨b0, b5, b6, b7, bl⟩ := h.bfacts
      obtain ⟨g0, g1, g2, g3, g4⟩ := b0
      obtain ⟨f0, f1, f2⟩ := flat3_get s.thr i t ht
      have c0 := (h.thr.cell (i * 3)).trans f0
      have c1 := (h.thr.cell (i * 3 + 1)).trans f1
      have z0 := h.thr.frozen (i * 3)
      have z1 := h.thr.frozen (i * 3 + 1)
      have bt := h.thr.lt
      clear f0 f1 f2
      have k0 : ¬ c.kind < 1 := fun e => hk (.inl e)
      have k1 : ¬ 4 < c.kind := fun e => hk (.inr e)
      by_cases he : t.calls = s.c.calls
      · have Hb := Lib.hid (show s.begin (i : Int) c = (s, 0, 2) by unfold St.begin; rw [hta]; simp only []; rw [if_neg hk, if_pos he])
        have he' : (t.calls == s.c.calls) = true := by simpa using he
        clear hta ht he hk
        go_enter Tryz.func57, Tryz.ntmps57
        go_wp2_with (first | (go_at_call 126; refine (thread_in i _ (h.alloc _) hi).mono ?_; rintro e w1 ⟨rfl, rfl⟩))
        go_quiet (fail)
        go_wp2
        go_ret2
        rw [Hb.out]
        exact ⟨rfl, (h.alloc _).drewN _, ((Only.refl _ _).alloc _).drewN _⟩
      · have he' : (t.calls == s.c.calls) = false := by simpa using he
        have hcnt := h.ok.counts t (List.mem_of_getElem? ht)
        have hm := h.ok.may
        obtain ⟨a1, a2, b1, b2, c1', c2', _, _, a3, a4⟩ := may_bounds hm
        have hth := h.ok.thr
        have hit : (i : Int) < s.c.threads := by omega
        have hof : ofOr s.c i t.calls s.c.calls 0 = i * s.c.calls + t.calls := by unfold ofOr; rw [if_pos (by omega), atOr_in (by omega)]; omega
        have Hof := Lib.hid hof
        have HM := Lib.hid hm
        clear hof hm
        by_cases hfull : c.kind = 1 ∧ t.inserts = s.c.inserts
        · have Hb := Lib.hid (show s.begin (i : Int) c = ({ s with thr := s.thr.set i { t with calls := t.calls + 1 } }, 0, 3) by unfold St.begin; rw [hta]; simp only []; rw [if_neg hk, if_neg he, if_pos hfull]; rfl)
          obtain ⟨hk1, hf⟩ := hfull
          have hk1' : (c.kind == 1) = true := by simpa using hk1
          have hf' : (t.inserts == s.c.inserts) = true := by simpa using hf
          have Ht := Lib.hid ht
          clear hta ht he hk hk1 hf
          go_enter Tryz.func57, Tryz.ntmps57
          go_wp2_with (first | (go_at_call 126; refine (thread_in i _ (h.alloc _) hi).mono ?_; rintro e w1 ⟨rfl, rfl⟩))
          go_quiet (fail)
          go_wp2_with fail
          go_region_held3 (fun w' => w'.cell? ⟨k.bb, 0, none⟩ = some (.int .i64 s.c.threads) ∧ w'.cell? ⟨k.bb, 1, none⟩ = some (.int .i64 s.c.buckets) ∧ w'.cell? ⟨k.bb, 2, none⟩ = some (.int .i64 s.c.inserts) ∧ w'.cell? ⟨k.bb, 3, none⟩ = some (.int .i64 s.c.fuel) ∧ w'.cell? ⟨k.bb, 4, none⟩ = some (.int .i64 s.c.calls) ∧ w'.cell? ⟨k.bt, i * 3, none⟩ = some (.int .i64 t.calls)) (first | go_keep | (refine ⟨?_, ?_, ?_, ?_, ?_, ?_⟩ <;> (rw [hb2.cell (by simp; omega)]; go_simp))) ((go_at_call 127; refine (op_any s.c _ _ _ HM.out).mono ?_; rintro e w2 ⟨rfl, hb2⟩))
          have H2 : Holds k s w2 := ((h.alloc _).drewN _).below hb2
          obtain ⟨p0, p1, p2, p3⟩ : CallAt w2 w.heap.size c := ((callAt_new w c _).drewN _).below hb2 (by simp)
          have O2 : Below w.heap.size w w2 := (bl_drewN ((Below.refl _ _).alloc (Nat.le_refl _) _) _).trans (hb2.mono (by simp))
          have s2 := hb2.size
          simp at s2
          obtain ⟨⟨u0, u1, u2, u3, u4⟩, u5, u6, u7, ul⟩ := H2.bfacts
          obtain ⟨v0, v1, v2, vz0, vz1, vz2, vl⟩ := H2.tfacts Ht.out
          have nbt := H2.bbt
          have nbt' : ¬ k.bt = k.bb := fun e => nbt e.symm
          have hlt : ¬ k.bt = w.heap.size := by omega
          have ei : IntKind.i64.wrap (t.calls + 1) = t.calls + 1 := IntWalk.i64_in _ (by have := he'; omega)
          go_wp2_with fail
          go_quiet (fail)
          go_wp2
          go_ret2
          rw [Hb.out]
          have hA : At (w2.setCell ⟨k.bt, i * 3, none⟩ (.int .i64 (t.calls + 1))) k.bt 189 (thrCells (s.thr.set i { t with calls := t.calls + 1 })) := by
            rw [← thrCells_set0 _ _ _ _ Ht.out]; exact H2.thr.set _ _
          have hO : Only (fun j => j = k.bt) w2 (w2.setCell ⟨k.bt, i * 3, none⟩ (.int .i64 (t.calls + 1))) := (Only.refl (fun j => j = k.bt) w2).set (p := ⟨k.bt, i * 3, none⟩) (.inl rfl) _
          exact ⟨rfl, (H2.threads hO hA (by simp) (ok_thr H2.ok Ht.out (by show t.calls ≤ t.calls + 1; omega) (Int.le_refl _) ⟨by show 0 ≤ t.calls + 1; omega, by show t.calls + 1 ≤ _; have := he'; simp at this; omega, hcnt.2.2⟩)).drewN _, ((Only.ofBelow _ O2).trans (only_bt hO)).drewN _⟩
        · by_cases hk1 : c.kind = 1
          · have Hb := Lib.hid (show s.begin (i : Int) c = ({ s with thr := s.thr.set i { t with calls := t.calls + 1, inserts := t.inserts + 1 }, ops := s.ops ++ [(i * s.c.calls + t.calls, c)] }, i * s.c.calls + t.calls, 0) by unfold St.begin; rw [hta]; simp only []; rw [if_neg hk, if_neg he, if_neg hfull, if_pos hk1]; rfl)
            have hk1' : (c.kind == 1) = true := by simpa using hk1
            have hf' : (t.inserts == s.c.inserts) = false := by rw [beq_eq_false_iff_ne]; exact fun e => hfull ⟨hk1, e⟩
            have Ht := Lib.hid ht
            have hnew : look1 s.ops (i * s.c.calls + t.calls) = none := fresh_op h.ok ht (by omega)
            have HN := Lib.hid hnew
            clear hta ht he hk hk1 hfull hnew
            go_enter Tryz.func57, Tryz.ntmps57
            go_wp2_with (first | (go_at_call 126; refine (thread_in i _ (h.alloc _) hi).mono ?_; rintro e w1 ⟨rfl, rfl⟩))
            go_quiet (fail)
            go_wp2_with fail
            go_region_held3 (fun w' => w'.cell? ⟨k.bb, 0, none⟩ = some (.int .i64 s.c.threads) ∧ w'.cell? ⟨k.bb, 1, none⟩ = some (.int .i64 s.c.buckets) ∧ w'.cell? ⟨k.bb, 2, none⟩ = some (.int .i64 s.c.inserts) ∧ w'.cell? ⟨k.bb, 3, none⟩ = some (.int .i64 s.c.fuel) ∧ w'.cell? ⟨k.bb, 4, none⟩ = some (.int .i64 s.c.calls) ∧ w'.cell? ⟨k.bt, i * 3, none⟩ = some (.int .i64 t.calls)) (first | go_keep | (refine ⟨?_, ?_, ?_, ?_, ?_, ?_⟩ <;> (rw [hb2.cell (by simp; omega)]; go_simp))) ((go_at_call 127; refine (op_any s.c _ _ _ HM.out).mono ?_; rintro e w2 ⟨rfl, hb2⟩))
            have H2 : Holds k s w2 := ((h.alloc _).drewN _).below hb2
            obtain ⟨p0, p1, p2, p3⟩ : CallAt w2 w.heap.size c := ((callAt_new w c _).drewN _).below hb2 (by simp)
            have O2 : Below w.heap.size w w2 := (bl_drewN ((Below.refl _ _).alloc (Nat.le_refl _) _) _).trans (hb2.mono (by simp))
            have s2 := hb2.size
            simp at s2
            obtain ⟨⟨u0, u1, u2, u3, u4⟩, u5, u6, u7, ul⟩ := H2.bfacts
            obtain ⟨v0, v1, v2, vz0, vz1, vz2, vl⟩ := H2.tfacts Ht.out
            have nbt := H2.bbt
            have nbt' : ¬ k.bt = k.bb := fun e => nbt e.symm
            have hlt : ¬ k.bt = w.heap.size := by omega
            have ej : IntKind.i64.wrap (t.inserts + 1) = t.inserts + 1 := IntWalk.i64_in _ (by omega)
            have ei : IntKind.i64.wrap (t.calls + 1) = t.calls + 1 := IntWalk.i64_in _ (by have := he'; omega)
            go_wp2_with fail
            go_quiet (fail)
            go_wp2_with fail
            have hA : At (((w2.setCell ⟨k.bt, i * 3, none⟩ (.int .i64 (t.calls + 1))).drewN nq).setCell ⟨k.bt, i * 3 + 1, none⟩ (.int .i64 (t.inserts + 1))) k.bt 189 (thrCells (s.thr.set i { t with calls := t.calls + 1, inserts := t.inserts + 1 })) := by
              have e1 := thrCells_set1 (s.thr.set i { t with calls := t.calls + 1 }) i { t with calls := t.calls + 1 } (t.inserts + 1) (by simp [hi])
              rw [List.set_set] at e1
              rw [← e1, ← thrCells_set0 _ _ _ _ Ht.out]; exact ((H2.thr.set _ _) : At ((w2.setCell ⟨k.bt, i * 3, none⟩ (.int .i64 (t.calls + 1))).drewN nq) _ _ _).set _ _
            have hO : Only (fun j => j = k.bt) w2 (((w2.setCell ⟨k.bt, i * 3, none⟩ (.int .i64 (t.calls + 1))).drewN nq).setCell ⟨k.bt, i * 3 + 1, none⟩ (.int .i64 (t.inserts + 1))) := (((Only.refl (fun j => j = k.bt) w2).set (p := ⟨k.bt, i * 3, none⟩) (.inl rfl) _).drewN nq).set (p := ⟨k.bt, i * 3 + 1, none⟩) (.inl rfl) _
            have H3 := H2.threads hO hA (by simp) (ok_thr H2.ok Ht.out (by show t.calls ≤ t.calls + 1; omega) (Int.le_refl _) ⟨by show 0 ≤ t.calls + 1; omega, by show t.calls + 1 ≤ _; have := he'; simp at this; omega, by show 0 ≤ t.inserts + 1; omega, by show t.inserts + 1 ≤ _; have := hf'; simp at this; omega, hcnt.2.2.2.2⟩)
            have P3 : CallAt (((w2.setCell ⟨k.bt, i * 3, none⟩ (.int .i64 (t.calls + 1))).drewN nq).setCell ⟨k.bt, i * 3 + 1, none⟩ (.int .i64 (t.inserts + 1))) w.heap.size c := CallAt.far ((CallAt.far ⟨p0, p1, p2, p3⟩ (p := ⟨k.bt, i * 3, none⟩) (fun e => hlt e.symm) _).drewN _) (p := ⟨k.bt, i * 3 + 1, none⟩) (fun e => hlt e.symm) _
            have O3 : Only (Own k) w (((w2.setCell ⟨k.bt, i * 3, none⟩ (.int .i64 (t.calls + 1))).drewN nq).setCell ⟨k.bt, i * 3 + 1, none⟩ (.int .i64 (t.inserts + 1))) := (Only.ofBelow _ O2).trans (only_bt hO)
            have S3 : w.heap.size < (((w2.setCell ⟨k.bt, i * 3, none⟩ (.int .i64 (t.calls + 1))).drewN nq).setCell ⟨k.bt, i * 3 + 1, none⟩ (.int .i64 (t.inserts + 1))).heap.size := by simp [World.setCell]; omega
            generalize ((w2.setCell ⟨k.bt, i * 3, none⟩ (.int .i64 (t.calls + 1))).drewN nq).setCell ⟨k.bt, i * 3 + 1, none⟩ (.int .i64 (t.inserts + 1)) = w3 at *
            clear hO hA O2 H2 p0 p1 p2 p3 u0 u1 u2 u3 u4 u5 u6 u7 v0 v1 v2 vz0 vz1 vz2
            obtain ⟨p0, p1, p2, p3⟩ := P3
            obtain ⟨_, u5, u6, u7, ul3⟩ := H3.bfacts
            have hrun := run_update_new (P := Tryz.prog) Tryz.underlying160 Tryz.underlying3 H3.drew.ops (k := i * s.c.calls + t.calls) (by rw [look_ops]; show (look1 s.ops _).map _ = none; rw [HN.out]; rfl) c.v
            have nb1 : k.bb ≠ k.bo := (H3.ops.ne H3.book).symm
            have nb2 : w.heap.size ≠ k.bo := by have := h.ops.lt; omega
            rw [Hof.out]
            go_region_held3 (fun w' => w'.cell? ⟨k.bb, 6, none⟩ = some (.map (some k.bo)) ∧ w'.cell? ⟨w.heap.size, 0, none⟩ = some (.int .i64 c.kind) ∧ w'.cell? ⟨w.heap.size, 1, none⟩ = some (.int .u64 c.key) ∧ w'.cell? ⟨w.heap.size, 2, none⟩ = some (.int .u64 c.val) ∧ w'.cell? ⟨w.heap.size, 3, none⟩ = some (.int .i64 c.limit)) (first | go_keep | (refine ⟨?_, ?_, ?_, ?_, ?_⟩ <;> (rw [putObj_cell (by first | exact nb1 | exact nb2)]; assumption))) (fail)
            go_wp2
            go_ret2
            rw [Hb.out]
            exact ⟨rfl, H3.drew.opsPut putObj_only (putOps H3.drew.ops) (ok_ops H3.ok (i := i) (t := { t with calls := t.calls + 1, inserts := t.inserts + 1 }) (by simp [hi]) hc (by show i * s.c.calls ≤ i * s.c.calls + t.calls; omega) (by show i * s.c.calls + t.calls < i * s.c.calls + (t.calls + 1); omega)), O3.drew.trans (putObj_only.mono fun _ _ e => .inr (.inr (.inr (.inl e))))⟩
          · have Hb := Lib.hid (show s.begin (i : Int) c = ({ s with thr := s.thr.set i { t with calls := t.calls + 1 }, ops := s.ops ++ [(i * s.c.calls + t.calls, c)] }, i * s.c.calls + t.calls, 0) by unfold St.begin; rw [hta]; simp only []; rw [if_neg hk, if_neg he, if_neg hfull, if_neg hk1]; rfl)
            have hk1' : (c.kind == 1) = false := by simpa using hk1
            have Ht := Lib.hid ht
            have hnew : look1 s.ops (i * s.c.calls + t.calls) = none := fresh_op h.ok ht (by omega)
            have HN := Lib.hid hnew
            clear hta ht he hk hk1 hfull hnew
            go_enter Tryz.func57, Tryz.ntmps57
            go_wp2_with (first | (go_at_call 126; refine (thread_in i _ (h.alloc _) hi).mono ?_; rintro e w1 ⟨rfl, rfl⟩))
            go_quiet (fail)
            go_wp2_with fail
            go_region_held3 (fun w' => w'.cell? ⟨k.bb, 0, none⟩ = some (.int .i64 s.c.threads) ∧ w'.cell? ⟨k.bb, 1, none⟩ = some (.int .i64 s.c.buckets) ∧ w'.cell? ⟨k.bb, 2, none⟩ = some (.int .i64 s.c.inserts) ∧ w'.cell? ⟨k.bb, 3, none⟩ = some (.int .i64 s.c.fuel) ∧ w'.cell? ⟨k.bb, 4, none⟩ = some (.int .i64 s.c.calls) ∧ w'.cell? ⟨k.bt, i * 3, none⟩ = some (.int .i64 t.calls)) (first | go_keep | (refine ⟨?_, ?_, ?_, ?_, ?_, ?_⟩ <;> (rw [hb2.cell (by simp; omega)]; go_simp))) ((go_at_call 127; refine (op_any s.c _ _ _ HM.out).mono ?_; rintro e w2 ⟨rfl, hb2⟩))
            have H2 : Holds k s w2 := ((h.alloc _).drewN _).below hb2
            obtain ⟨p0, p1, p2, p3⟩ : CallAt w2 w.heap.size c := ((callAt_new w c _).drewN _).below hb2 (by simp)
            have O2 : Below w.heap.size w w2 := (bl_drewN ((Below.refl _ _).alloc (Nat.le_refl _) _) _).trans (hb2.mono (by simp))
            have s2 := hb2.size
            simp at s2
            obtain ⟨⟨u0, u1, u2, u3, u4⟩, u5, u6, u7, ul⟩ := H2.bfacts
            obtain ⟨v0, v1, v2, vz0, vz1, vz2, vl⟩ := H2.tfacts Ht.out
            have nbt := H2.bbt
            have nbt' : ¬ k.bt = k.bb := fun e => nbt e.symm
            have hlt : ¬ k.bt = w.heap.size := by omega
            have ei : IntKind.i64.wrap (t.calls + 1) = t.calls + 1 := IntWalk.i64_in _ (by have := he'; omega)
            go_wp2_with fail
            have hA : At (w2.setCell ⟨k.bt, i * 3, none⟩ (.int .i64 (t.calls + 1))) k.bt 189 (thrCells (s.thr.set i { t with calls := t.calls + 1 })) := by
              rw [← thrCells_set0 _ _ _ _ Ht.out]; exact H2.thr.set _ _
            have hO : Only (fun j => j = k.bt) w2 (w2.setCell ⟨k.bt, i * 3, none⟩ (.int .i64 (t.calls + 1))) := (Only.refl (fun j => j = k.bt) w2).set (p := ⟨k.bt, i * 3, none⟩) (.inl rfl) _
            have H3 := H2.threads hO hA (by simp) (ok_thr H2.ok Ht.out (by show t.calls ≤ t.calls + 1; omega) (Int.le_refl _) ⟨by show 0 ≤ t.calls + 1; omega, by show t.calls + 1 ≤ _; have := he'; simp at this; omega, hcnt.2.2⟩)
            have P3 : CallAt (w2.setCell ⟨k.bt, i * 3, none⟩ (.int .i64 (t.calls + 1))) w.heap.size c := CallAt.far ⟨p0, p1, p2, p3⟩ (p := ⟨k.bt, i * 3, none⟩) (fun e => hlt e.symm) _
            have O3 : Only (Own k) w (w2.setCell ⟨k.bt, i * 3, none⟩ (.int .i64 (t.calls + 1))) := (Only.ofBelow _ O2).trans (only_bt hO)
            have S3 : w.heap.size < (w2.setCell ⟨k.bt, i * 3, none⟩ (.int .i64 (t.calls + 1))).heap.size := by simp [World.setCell]; omega
            generalize w2.setCell ⟨k.bt, i * 3, none⟩ (.int .i64 (t.calls + 1)) = w3 at *
            clear hO hA O2 H2 p0 p1 p2 p3 u0 u1 u2 u3 u4 u5 u6 u7 v0 v1 v2 vz0 vz1 vz2
            obtain ⟨p0, p1, p2, p3⟩ := P3
            obtain ⟨_, u5, u6, u7, ul3⟩ := H3.bfacts
            have hrun := run_update_new (P := Tryz.prog) Tryz.underlying160 Tryz.underlying3 H3.drew.ops (k := i * s.c.calls + t.calls) (by rw [look_ops]; show (look1 s.ops _).map _ = none; rw [HN.out]; rfl) c.v
            have nb1 : k.bb ≠ k.bo := (H3.ops.ne H3.book).symm
            have nb2 : w.heap.size ≠ k.bo := by have := h.ops.lt; omega
            rw [Hof.out]
            go_region_held3 (fun w' => w'.cell? ⟨k.bb, 6, none⟩ = some (.map (some k.bo)) ∧ w'.cell? ⟨w.heap.size, 0, none⟩ = some (.int .i64 c.kind) ∧ w'.cell? ⟨w.heap.size, 1, none⟩ = some (.int .u64 c.key) ∧ w'.cell? ⟨w.heap.size, 2, none⟩ = some (.int .u64 c.val) ∧ w'.cell? ⟨w.heap.size, 3, none⟩ = some (.int .i64 c.limit)) (first | go_keep | (refine ⟨?_, ?_, ?_, ?_, ?_⟩ <;> (rw [putObj_cell (by first | exact nb1 | exact nb2)]; assumption))) (fail)
            go_wp2
            go_ret2
            rw [Hb.out]
            exact ⟨rfl, H3.drew.opsPut putObj_only (putOps H3.drew.ops) (ok_ops H3.ok (i := i) (t := { t with calls := t.calls + 1 }) (by simp [hi]) hc (by show i * s.c.calls ≤ i * s.c.calls + t.calls; omega) (by show i * s.c.calls + t.calls < i * s.c.calls + (t.calls + 1); omega)), O3.drew.trans (putObj_only.mono fun _ _ e => .inr (.inr (.inr (.inl e))))⟩
  · have Hb := Lib.hid (show s.begin n c = (s, 0, 1) by unfold St.begin; rw [hta])
    clear hta
    go_enter Tryz.func57, Tryz.ntmps57
    go_wp2_with (first | (go_at_call 126; refine (thread_out n _ (h.alloc _) hn).mono ?_; rintro e w1 ⟨rfl, rfl⟩))
    go_ret2
    rw [Hb.out]
    exact ⟨rfl, h.alloc _, (Only.refl _ _).alloc _⟩

end Go.Proofs.YtccmjljlfgbicaaGreat
