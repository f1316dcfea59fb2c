/- The contract of the book's Make: a node is written down. -/
import Derived.Test.YtccmjljlfgbicaaGreatZBegin
namespace Go.Proofs.YtccmjljlfgbicaaGreat
open Go.ChangeShapes Go.WideShapes Go.ChangeAt Go.RowKit

/-- A node is written down: the state, the node, the error's number. -/
def St.make (s : St) (n op : Int) : St × Int × Int :=
  match thrAt s.thr n with
  | none => (s, 0, 1)
  | some t =>
    if (s.callOf op).isNone then (s, 0, 1)
    else if t.made = 2 * s.c.calls then (s, 0, 3)
    else ({ s with thr := s.thr.set n.toNat { t with made := t.made + 1 }, nodes := s.nodes ++ [(1 + s.c.buckets + n * (2 * s.c.calls) + t.made, op)] }, 1 + s.c.buckets + n * (2 * s.c.calls) + t.made, 0)

theorem fresh_node {s : St} (h : s.ok) {i : Nat} {t : Thr} (ht : s.thr[i]? = some t) (hlt : t.made < 2 * s.c.calls) : look1 s.nodes (1 + s.c.buckets + i * (2 * s.c.calls) + t.made) = none := by
  cases hl : look1 s.nodes (1 + s.c.buckets + i * (2 * s.c.calls) + t.made) with
  | none => rfl
  | some c =>
    exfalso
    obtain ⟨j, u, hu, l1, l2⟩ := h.nodes _ (look1_mem hl)
    simp only [] at l1 l2
    have hc := may_bounds h.may
    have ct := h.counts t (List.mem_of_getElem? ht)
    have cu := h.counts u (List.mem_of_getElem? hu)
    generalize 2 * s.c.calls = m at *
    rcases Nat.lt_trichotomy i j with e | e | e
    · have : ((i : Int) + 1) * m ≤ j * m := Int.mul_le_mul_of_nonneg_right (by omega) (by omega)
      rw [Int.add_mul] at this
      omega
    · subst e
      rw [ht] at hu; cases hu
      omega
    · have : ((j : Int) + 1) * m ≤ i * m := Int.mul_le_mul_of_nonneg_right (by omega) (by omega)
      rw [Int.add_mul] at this
      omega
theorem nodesV_snoc (l : List (Int × Int)) (n c : Int) : nodesV l ++ [(n, Value.int .i64 c)] = nodesV (l ++ [(n, c)]) := by simp [nodesV]
theorem putNodes {w : World} {g : Nat} {l : List (Int × Int)} {n c : Int} (h : MapAt w g (nodesV l)) : MapAt (putObj w g (.map (mkMap (nodesV l ++ [(n, .int .i64 c)])) ((nodesV l).length + 1))) g (nodesV (l ++ [(n, c)])) := by
  have e : (nodesV l).length + 1 = (nodesV l ++ [(n, Value.int .i64 c)]).length := by simp
  rw [e, nodesV_snoc]
  exact putObj_map h
theorem ok_nodes {s : St} (h : s.ok) {i : Nat} {t : Thr} {n c : Int} (ht : s.thr[i]? = some t) (h1 : 1 + s.c.buckets + i * (2 * s.c.calls) ≤ n) (h2 : n < 1 + s.c.buckets + i * (2 * s.c.calls) + t.made) : St.ok { s with nodes := s.nodes ++ [(n, c)] } := by
  refine ⟨h.may, h.thr, h.len, h.words, h.counts, h.ops, ?_⟩
  intro p hp
  rcases List.mem_append.1 hp with hp | hp
  · exact h.nodes p hp
  · obtain rfl := List.mem_singleton.1 hp
    exact ⟨i, t, ht, h1, h2⟩

set_option maxRecDepth 100000 in
set_option maxHeartbeats 2000000 in
theorem make_any {k : Blks} {s : St} (n op : Int) (w : World) (h : Holds k s w) :
    Calls Tryz.prog 58 #[.pointer (some ⟨k.bb, 0, none⟩), .int .i64 n, .int .i64 op] w fun e w' => e = .returned (.tuple #[.int .i64 (s.make n op).2.1, .int .i64 (s.make n op).2.2]) ∧ Holds k (s.make n op).1 w' ∧ Only (Own k) w w' := by
  obtain ⟨⟨g0, g1, g2, g3, g4⟩, b5, b6, b7, bl⟩ := h.bfacts
  rcases thrAt_cases s.thr n with ⟨i, t, rfl, hi, ht, hta⟩ | ⟨hta, hn⟩
  · cases hl : s.callOf op with
    | none =>
      have Hb := Lib.hid (show s.make (i : Int) op = (s, 0, 1) by unfold St.make; rw [hta, hl]; rfl)
      have hrun := run_lookup_out (P := Tryz.prog) Tryz.underlying160 Tryz.underlying3 h.ops (k := op) (z := .agg #[.int .i64 0, .int .u64 0, .int .u64 0, .int .i64 0]) (by intro w; kernel_rfl) (by rw [look_ops, hl]; rfl)
      clear hta ht hl
      go_enter Tryz.func58, Tryz.ntmps58
      go_wp2_with (first | (go_at_call 126; refine (thread_in i _ h hi).mono ?_; rintro e w1 ⟨rfl, rfl⟩))
      go_ret2
      rw [Hb.out]
      exact ⟨rfl, h.alloc _, (Only.refl _ _).alloc _⟩
    | some c =>
      have hrun := run_lookup_in (P := Tryz.prog) Tryz.underlying160 Tryz.underlying3 h.ops (k := op) (v := c.v) (by rw [look_ops, hl]; rfl)
      obtain ⟨c0, c1, c2, z0, z1, z2, bt⟩ := h.tfacts ht
      have hcnt := h.ok.counts t (List.mem_of_getElem? ht)
      have hm := h.ok.may
      obtain ⟨a1, a2, b1, b2, c1', c2', _, _, a3, a4⟩ := may_bounds hm
      have ew : IntKind.i64.wrap (2 * s.c.calls) = 2 * s.c.calls := IntWalk.i64_in _ (by omega)
      have hth := h.ok.thr
      have hit : (i : Int) < s.c.threads := by omega
      by_cases he : t.made = 2 * s.c.calls
      · have Hb := Lib.hid (show s.make (i : Int) op = (s, 0, 3) by unfold St.make; rw [hta, hl]; simp only []; rw [if_neg (by simp), if_pos he])
        have he' : (t.made == 2 * s.c.calls) = true := by simpa using he
        clear hta ht he hl hm
        go_enter Tryz.func58, Tryz.ntmps58
        go_wp2_with (first | (go_at_call 126; refine (thread_in i _ h hi).mono ?_; rintro e w1 ⟨rfl, rfl⟩))
        go_quiet (fail)
        go_wp2
        go_ret2
        rw [Hb.out]
        exact ⟨rfl, (h.alloc _).drewN _, ((Only.refl _ _).alloc _).drewN _⟩
      · have he' : (t.made == 2 * s.c.calls) = false := by simpa using he
        have Hb := Lib.hid (show s.make (i : Int) op = ({ s with thr := s.thr.set i { t with made := t.made + 1 }, nodes := s.nodes ++ [(1 + s.c.buckets + i * (2 * s.c.calls) + t.made, op)] }, 1 + s.c.buckets + i * (2 * s.c.calls) + t.made, 0) by unfold St.make; rw [hta, hl]; simp only []; rw [if_neg (by simp), if_neg he]; rfl)
        have Hof := Lib.hid (show ofOr s.c i t.made (2 * s.c.calls) (1 + s.c.buckets) = 1 + s.c.buckets + i * (2 * s.c.calls) + t.made by unfold ofOr; rw [if_pos (by omega), atOr_in (by omega)])
        have HM := Lib.hid hm
        have Ht := Lib.hid ht
        have HN := Lib.hid (fresh_node h.ok ht (by omega))
        clear hta ht he hl hm
        go_enter Tryz.func58, Tryz.ntmps58
        go_wp2_with (first | (go_at_call 126; refine (thread_in i _ h hi).mono ?_; rintro e w1 ⟨rfl, rfl⟩))
        go_quiet (fail)
        go_wp2_with fail
        go_region_held3 (fun w' => w'.cell? ⟨k.bb, 0, none⟩ = some (.int .i64 s.c.threads) ∧ w'.cell? ⟨k.bb, 1, none⟩ = some (.int .i64 s.c.buckets) ∧ w'.cell? ⟨k.bb, 2, none⟩ = some (.int .i64 s.c.inserts) ∧ w'.cell? ⟨k.bb, 3, none⟩ = some (.int .i64 s.c.fuel) ∧ w'.cell? ⟨k.bb, 4, none⟩ = some (.int .i64 s.c.calls) ∧ w'.cell? ⟨k.bt, i * 3 + 2, none⟩ = some (.int .i64 t.made)) (first | go_keep | (refine ⟨?_, ?_, ?_, ?_, ?_, ?_⟩ <;> (rw [hb2.cell (by simp; omega)]; go_simp))) ((go_at_call 128; refine (node_any s.c _ _ _ HM.out).mono ?_; rintro e w2 ⟨rfl, hb2⟩))
        have H2 : Holds k s w2 := ((h.alloc _).drewN _).below hb2
        have O2 : Below w.heap.size w w2 := (bl_drewN ((Below.refl _ _).alloc (Nat.le_refl _) _) _).trans (hb2.mono (by simp))
        obtain ⟨⟨u0, u1, u2, u3, u4⟩, u5, u6, u7, ul⟩ := H2.bfacts
        obtain ⟨v0, v1, v2, vz0, vz1, vz2, vl⟩ := H2.tfacts Ht.out
        have nbt := H2.bbt
        have nbt' : ¬ k.bt = k.bb := fun e => nbt e.symm
        have ei : IntKind.i64.wrap (t.made + 1) = t.made + 1 := IntWalk.i64_in _ (by omega)
        go_wp2_with fail
        have hA : At (w2.setCell ⟨k.bt, i * 3 + 2, none⟩ (.int .i64 (t.made + 1))) k.bt 189 (thrCells (s.thr.set i { t with made := t.made + 1 })) := by
          rw [← thrCells_set2 _ _ _ _ Ht.out]; exact H2.thr.set _ _
        have hO : Only (fun j => j = k.bt) w2 (w2.setCell ⟨k.bt, i * 3 + 2, none⟩ (.int .i64 (t.made + 1))) := (Only.refl (fun j => j = k.bt) w2).set (p := ⟨k.bt, i * 3 + 2, none⟩) (.inl rfl) _
        have H3 := H2.threads hO hA (by simp) (ok_thr H2.ok Ht.out (Int.le_refl _) (by show t.made ≤ t.made + 1; omega) ⟨hcnt.1, hcnt.2.1, hcnt.2.2.1, hcnt.2.2.2.1, by show 0 ≤ t.made + 1; omega, by show t.made + 1 ≤ _; have := he'; simp at this; omega⟩)
        have O3 : Only (Own k) w (w2.setCell ⟨k.bt, i * 3 + 2, none⟩ (.int .i64 (t.made + 1))) := (Only.ofBelow _ O2).trans (only_bt hO)
        generalize w2.setCell ⟨k.bt, i * 3 + 2, none⟩ (.int .i64 (t.made + 1)) = w3 at *
        clear hO hA O2 H2 u0 u1 u2 u3 u4 u5 u6 u7 v0 v1 v2 vz0 vz1 vz2
        obtain ⟨_, u5, u6, u7, ul3⟩ := H3.bfacts
        have hrun2 := run_update_new (P := Tryz.prog) Tryz.underlying161 Tryz.underlying3 H3.nodes (k := 1 + s.c.buckets + i * (2 * s.c.calls) + t.made) (by rw [look_nodes]; show (look1 s.nodes _).map _ = none; rw [HN.out]; rfl) (.int .i64 op)
        rw [Hof.out]
        go_wp2
        go_ret2
        rw [Hb.out]
        exact ⟨rfl, H3.nodesPut putObj_only (putNodes H3.nodes) (ok_nodes H3.ok (i := i) (t := { t with made := t.made + 1 }) (by simp [hi]) (by show 1 + s.c.buckets + i * (2 * s.c.calls) ≤ 1 + s.c.buckets + i * (2 * s.c.calls) + t.made; omega) (by show 1 + s.c.buckets + i * (2 * s.c.calls) + t.made < 1 + s.c.buckets + i * (2 * s.c.calls) + (t.made + 1); omega)), O3.trans (putObj_only.mono fun _ _ e => .inr (.inr (.inr (.inr e))))⟩
  · have Hb := Lib.hid (show s.make n op = (s, 0, 1) by unfold St.make; rw [hta])
    clear hta
    go_enter Tryz.func58, Tryz.ntmps58
    go_wp2_with (first | (go_at_call 126; refine (thread_out n _ h hn).mono ?_; rintro e w1 ⟨rfl, rfl⟩))
    go_ret2
    rw [Hb.out]
    exact ⟨rfl, h, Only.refl _ _⟩

end Go.Proofs.YtccmjljlfgbicaaGreat

/- Contracts of the world's steps. -/
namespace Go.Proofs.YtccmjljlfgbicaaGreat
open Go.ChangeShapes Go.WideShapes Go.ChangeAt Go.RowKit

def St.nextAt (s : St) (n : Int) : Int := atOr n s.c.nodes n
def St.wordAt (s : St) (n : Int) : Int := atOr n s.c.ops (s.c.nodes + n)
/-- A step that reads a place, lays a word there, or lays one in place of another one. -/
def St.load (s : St) (p : Int) : St := { s with steps := tick s.words p s.steps }
def St.store (s : St) (p x : Int) : St := { s with words := storeL s.words p x, steps := tick s.words p s.steps }
def St.swap (s : St) (p old x : Int) : St := { s with words := swapL s.words p old x, steps := tick s.words p s.steps }
def St.peek (s : St) (p : Int) : Int := peekL s.words p
def St.swaps (s : St) (p old : Int) : Bool := swapB s.words p old

theorem ok_load {s : St} (h : s.ok) (p : Int) : (s.load p).ok := ⟨h.may, h.thr, h.len, h.words, h.counts, h.ops, h.nodes⟩
theorem ok_words {s : St} (h : s.ok) {l : List Int} {n : Int} (hl : l.length = s.words.length) (hw : ∀ x ∈ l, 0 ≤ x ∧ x ≤ 18446744073709551615) : St.ok { s with words := l, steps := n } :=
  ⟨h.may, h.thr, by show (l.length : Int) = _; rw [hl]; exact h.len, hw, h.counts, h.ops, h.nodes⟩
theorem set_fits {l : List Int} {i : Nat} {x : Int} (hl : ∀ y ∈ l, 0 ≤ y ∧ y ≤ 18446744073709551615) (hx : 0 ≤ x ∧ x ≤ 18446744073709551615) : ∀ y ∈ l.set i x, 0 ≤ y ∧ y ≤ 18446744073709551615 := by
  intro y hy
  rcases List.mem_or_eq_of_mem_set hy with hy | rfl
  · exact hl y hy
  · exact hx
theorem ok_store {s : St} (h : s.ok) (p : Int) {x : Int} (hx : 0 ≤ x ∧ x ≤ 18446744073709551615) : (s.store p x).ok := by
  unfold St.store storeL
  split
  · exact ok_words h (by simp) (set_fits h.words hx)
  · exact ok_words h rfl h.words
theorem ok_swap {s : St} (h : s.ok) (p old : Int) {x : Int} (hx : 0 ≤ x ∧ x ≤ 18446744073709551615) : (s.swap p old x).ok := by
  unfold St.swap swapL
  split
  · exact ok_words h (by simp) (set_fits h.words hx)
  · exact ok_words h rfl h.words
theorem peek_range {s : St} (h : s.ok) (p : Int) : 0 ≤ s.peek p ∧ s.peek p ≤ 18446744073709551615 := by
  unfold St.peek peekL
  split
  · rename_i hp
    have hk : p.toNat < s.words.length := by omega
    rw [List.getD_eq_getElem?_getD, List.getElem?_eq_getElem hk]
    exact h.words _ (List.getElem_mem hk)
  · omega

theorem Holds.fresh {k : Blks} {s : St} {W : World} (h : Holds k s W) {i : Nat} (hi : W.heap.size ≤ i) : ¬ Own k i := by
  have h1 := h.cells.head.lt
  have h2 := h.cells.words.lt
  have h3 := h.thr.lt
  have h4 := h.ops.lt
  have h5 := h.nodes.lt
  rintro (e | e | e | e | e) <;> omega
theorem Only.cell {S : Nat → Prop} {w w' : World} (h : Only S w w') {b i : Nat} (hb : b < w.heap.size) (hS : ¬ S b) : w'.cell? ⟨b, i, none⟩ = w.cell? ⟨b, i, none⟩ := World.cell?_of_block (h.block b hb hS)
theorem cs_own {k : Blks} {i : Nat} (h : ¬ Own k i) : ¬ CS k.bc k.bx i := fun e => h (e.elim .inl (fun e => .inr (.inl e)))
theorem lt_of_cell {w : World} {b i : Nat} {v : Value} (h : w.cell? ⟨b, i, none⟩ = some v) : b < w.heap.size := World.block_lt_of_cell? w ⟨b, i, none⟩ h

theorem Holds.cells' {k : Blks} {s : St} {W W' : World} (h : Holds k s W) (hb : Below W.drew.heap.size W.drew W') : CellsAt W' k.bc k.bx s.words s.steps := (h.drew.below hb).cells
theorem Holds.then {k : Blks} {s : St} {W W2 W3 : World} (h : Holds k s W) (hb : Below W.drew.heap.size W.drew W2) {l : List Int} {n : Int} (hO : Only (CS k.bc k.bx) W2 W3) (hC : CellsAt W3 k.bc k.bx l n) (hok : St.ok { s with words := l, steps := n }) :
    Holds k { s with words := l, steps := n } W3 ∧ Only (Own k) W W3 :=
  ⟨(h.drew.below hb).turned hO hC hok, (Only.ofBelow _ ((Below.refl _ W).drew.trans hb)).trans (only_own hO)⟩

set_option maxRecDepth 100000 in
set_option maxHeartbeats 2000000 in
theorem next1_any {k : Blks} {s : St} (n : Int) (cw cn : Nat) (w : World) (h : Holds k s w) (q0 : w.cell? ⟨cw, 0, none⟩ = some (.pointer (some ⟨k.bw, 0, none⟩))) (q1 : w.cell? ⟨cn, 0, none⟩ = some (.int .i64 n)) (n0 : ¬ Own k cw) (n1 : ¬ Own k cn) :
    Calls Tryz.prog 102 #[.pointer (some ⟨cw, 0, none⟩), .pointer (some ⟨cn, 0, none⟩)] w fun e w' => e = .returned (.int .u64 (s.peek (s.nextAt n))) ∧ Holds k (s.load (s.nextAt n)) w' ∧ Only (Own k) w w' := by
  obtain ⟨⟨g0, g1, g2, g3, g4⟩, g5, g6, gl⟩ := h.wfacts
  have l0 := lt_of_cell q0
  have N0 := cs_own n0
  have l1 := lt_of_cell q1
  have N1 := cs_own n1
  have HM := Lib.hid h.ok.may
  have NW := cs_own h.ne_w
  go_enter Tryz.func102, Tryz.ntmps102
  go_wp2_with fail
  go_region_held3 (fun w' => w'.cell? ⟨cw, 0, none⟩ = some (.pointer (some ⟨k.bw, 0, none⟩)) ∧ w'.cell? ⟨cn, 0, none⟩ = some (.int .i64 n) ∧ w'.cell? ⟨k.bw, 0, none⟩ = some (.int .i64 s.c.threads) ∧ w'.cell? ⟨k.bw, 1, none⟩ = some (.int .i64 s.c.buckets) ∧ w'.cell? ⟨k.bw, 2, none⟩ = some (.int .i64 s.c.inserts) ∧ w'.cell? ⟨k.bw, 3, none⟩ = some (.int .i64 s.c.fuel) ∧ w'.cell? ⟨k.bw, 4, none⟩ = some (.int .i64 s.c.calls) ∧ w'.cell? ⟨k.bw, 5, none⟩ = some (.pointer (some ⟨k.bc, 0, none⟩)))
    (first
      | go_keep
      | (refine ⟨?_, ?_, ?_, ?_, ?_, ?_, ?_, ?_⟩ <;> (rw [hb2.cell (by simp; omega)]; go_simp))
      | (go_split_ands; refine ⟨?_, ?_, ?_, ?_, ?_, ?_, ?_, ?_⟩ <;> (rw [hO.cell (by have := hb2.size; simp at this; omega) (by assumption)]; assumption)))
    ((first | (go_at_call 103; refine (next_any s.c _ _).mono ?_; rintro e w2 ⟨rfl, hb2⟩) | (go_at_call 100; refine (load_any _ _ (h.cells' hb2)).mono ?_; rintro e w3 ⟨rfl, hC, hO⟩)))
  all_goals
    go_wp2
    go_ret
    exact ⟨rfl, h.then hb2 hO hC (ok_load h.ok _)⟩

set_option maxRecDepth 100000 in
set_option maxHeartbeats 2000000 in
theorem word1_any {k : Blks} {s : St} (n : Int) (cw cn : Nat) (w : World) (h : Holds k s w) (q0 : w.cell? ⟨cw, 0, none⟩ = some (.pointer (some ⟨k.bw, 0, none⟩))) (q1 : w.cell? ⟨cn, 0, none⟩ = some (.int .i64 n)) (n0 : ¬ Own k cw) (n1 : ¬ Own k cn) :
    Calls Tryz.prog 99 #[.pointer (some ⟨cw, 0, none⟩), .pointer (some ⟨cn, 0, none⟩)] w fun e w' => e = .returned (.int .u64 (s.peek (s.wordAt n))) ∧ Holds k (s.load (s.wordAt n)) w' ∧ Only (Own k) w w' := by
  obtain ⟨⟨g0, g1, g2, g3, g4⟩, g5, g6, gl⟩ := h.wfacts
  have l0 := lt_of_cell q0
  have N0 := cs_own n0
  have l1 := lt_of_cell q1
  have N1 := cs_own n1
  have HM := Lib.hid h.ok.may
  have NW := cs_own h.ne_w
  go_enter Tryz.func99, Tryz.ntmps99
  go_wp2_with fail
  go_region_held3 (fun w' => w'.cell? ⟨cw, 0, none⟩ = some (.pointer (some ⟨k.bw, 0, none⟩)) ∧ w'.cell? ⟨cn, 0, none⟩ = some (.int .i64 n) ∧ w'.cell? ⟨k.bw, 0, none⟩ = some (.int .i64 s.c.threads) ∧ w'.cell? ⟨k.bw, 1, none⟩ = some (.int .i64 s.c.buckets) ∧ w'.cell? ⟨k.bw, 2, none⟩ = some (.int .i64 s.c.inserts) ∧ w'.cell? ⟨k.bw, 3, none⟩ = some (.int .i64 s.c.fuel) ∧ w'.cell? ⟨k.bw, 4, none⟩ = some (.int .i64 s.c.calls) ∧ w'.cell? ⟨k.bw, 5, none⟩ = some (.pointer (some ⟨k.bc, 0, none⟩)))
    (first
      | go_keep
      | (refine ⟨?_, ?_, ?_, ?_, ?_, ?_, ?_, ?_⟩ <;> (rw [hb2.cell (by simp; omega)]; go_simp))
      | (go_split_ands; refine ⟨?_, ?_, ?_, ?_, ?_, ?_, ?_, ?_⟩ <;> (rw [hO.cell (by have := hb2.size; simp at this; omega) (by assumption)]; assumption)))
    ((first | (go_at_call 101; refine (word_any s.c _ _ HM.out).mono ?_; rintro e w2 ⟨rfl, hb2⟩) | (go_at_call 100; refine (load_any _ _ (h.cells' hb2)).mono ?_; rintro e w3 ⟨rfl, hC, hO⟩)))
  all_goals
    go_wp2
    go_ret
    exact ⟨rfl, h.then hb2 hO hC (ok_load h.ok _)⟩

set_option maxRecDepth 100000 in
set_option maxHeartbeats 2000000 in
theorem link1_any {k : Blks} {s : St} (n old x : Int) (cw cn co cx : Nat) (w : World) (h : Holds k s w) (q0 : w.cell? ⟨cw, 0, none⟩ = some (.pointer (some ⟨k.bw, 0, none⟩))) (q1 : w.cell? ⟨cn, 0, none⟩ = some (.int .i64 n)) (q2 : w.cell? ⟨co, 0, none⟩ = some (.int .u64 old)) (q3 : w.cell? ⟨cx, 0, none⟩ = some (.int .u64 x)) (n0 : ¬ Own k cw) (n1 : ¬ Own k cn) (n2 : ¬ Own k co) (n3 : ¬ Own k cx) (hx : 0 ≤ x ∧ x ≤ 18446744073709551615) :
    Calls Tryz.prog 189 #[.pointer (some ⟨cw, 0, none⟩), .pointer (some ⟨cn, 0, none⟩), .pointer (some ⟨co, 0, none⟩), .pointer (some ⟨cx, 0, none⟩)] w fun e w' => e = .returned (.bool (s.swaps (s.nextAt n) old)) ∧ Holds k (s.swap (s.nextAt n) old x) w' ∧ Only (Own k) w w' := by
  obtain ⟨⟨g0, g1, g2, g3, g4⟩, g5, g6, gl⟩ := h.wfacts
  have l0 := lt_of_cell q0
  have N0 := cs_own n0
  have l1 := lt_of_cell q1
  have N1 := cs_own n1
  have l2 := lt_of_cell q2
  have N2 := cs_own n2
  have l3 := lt_of_cell q3
  have N3 := cs_own n3
  have HM := Lib.hid h.ok.may
  have NW := cs_own h.ne_w
  go_enter Tryz.func189, Tryz.ntmps189
  go_wp2_with fail
  go_region_held3 (fun w' => w'.cell? ⟨cw, 0, none⟩ = some (.pointer (some ⟨k.bw, 0, none⟩)) ∧ w'.cell? ⟨cn, 0, none⟩ = some (.int .i64 n) ∧ w'.cell? ⟨co, 0, none⟩ = some (.int .u64 old) ∧ w'.cell? ⟨cx, 0, none⟩ = some (.int .u64 x) ∧ w'.cell? ⟨k.bw, 0, none⟩ = some (.int .i64 s.c.threads) ∧ w'.cell? ⟨k.bw, 1, none⟩ = some (.int .i64 s.c.buckets) ∧ w'.cell? ⟨k.bw, 2, none⟩ = some (.int .i64 s.c.inserts) ∧ w'.cell? ⟨k.bw, 3, none⟩ = some (.int .i64 s.c.fuel) ∧ w'.cell? ⟨k.bw, 4, none⟩ = some (.int .i64 s.c.calls) ∧ w'.cell? ⟨k.bw, 5, none⟩ = some (.pointer (some ⟨k.bc, 0, none⟩)))
    (first
      | go_keep
      | (refine ⟨?_, ?_, ?_, ?_, ?_, ?_, ?_, ?_, ?_, ?_⟩ <;> (rw [hb2.cell (by simp; omega)]; go_simp))
      | (go_split_ands; refine ⟨?_, ?_, ?_, ?_, ?_, ?_, ?_, ?_, ?_, ?_⟩ <;> (rw [hO.cell (by have := hb2.size; simp at this; omega) (by assumption)]; assumption)))
    ((first | (go_at_call 103; refine (next_any s.c _ _).mono ?_; rintro e w2 ⟨rfl, hb2⟩) | (go_at_call 111; refine (swap_any _ _ _ _ (h.cells' hb2)).mono ?_; rintro e w3 ⟨rfl, hC, hO⟩)))
  all_goals
    go_wp2
    go_ret
    exact ⟨rfl, h.then hb2 hO hC (ok_swap h.ok _ _ hx)⟩

set_option maxRecDepth 100000 in
set_option maxHeartbeats 2000000 in
theorem turn1_any {k : Blks} {s : St} (n old x : Int) (cw cn co cx : Nat) (w : World) (h : Holds k s w) (q0 : w.cell? ⟨cw, 0, none⟩ = some (.pointer (some ⟨k.bw, 0, none⟩))) (q1 : w.cell? ⟨cn, 0, none⟩ = some (.int .i64 n)) (q2 : w.cell? ⟨co, 0, none⟩ = some (.int .u64 old)) (q3 : w.cell? ⟨cx, 0, none⟩ = some (.int .u64 x)) (n0 : ¬ Own k cw) (n1 : ¬ Own k cn) (n2 : ¬ Own k co) (n3 : ¬ Own k cx) (hx : 0 ≤ x ∧ x ≤ 18446744073709551615) :
    Calls Tryz.prog 110 #[.pointer (some ⟨cw, 0, none⟩), .pointer (some ⟨cn, 0, none⟩), .pointer (some ⟨co, 0, none⟩), .pointer (some ⟨cx, 0, none⟩)] w fun e w' => e = .returned (.bool (s.swaps (s.wordAt n) old)) ∧ Holds k (s.swap (s.wordAt n) old x) w' ∧ Only (Own k) w w' := by
  obtain ⟨⟨g0, g1, g2, g3, g4⟩, g5, g6, gl⟩ := h.wfacts
  have l0 := lt_of_cell q0
  have N0 := cs_own n0
  have l1 := lt_of_cell q1
  have N1 := cs_own n1
  have l2 := lt_of_cell q2
  have N2 := cs_own n2
  have l3 := lt_of_cell q3
  have N3 := cs_own n3
  have HM := Lib.hid h.ok.may
  have NW := cs_own h.ne_w
  go_enter Tryz.func110, Tryz.ntmps110
  go_wp2_with fail
  go_region_held3 (fun w' => w'.cell? ⟨cw, 0, none⟩ = some (.pointer (some ⟨k.bw, 0, none⟩)) ∧ w'.cell? ⟨cn, 0, none⟩ = some (.int .i64 n) ∧ w'.cell? ⟨co, 0, none⟩ = some (.int .u64 old) ∧ w'.cell? ⟨cx, 0, none⟩ = some (.int .u64 x) ∧ w'.cell? ⟨k.bw, 0, none⟩ = some (.int .i64 s.c.threads) ∧ w'.cell? ⟨k.bw, 1, none⟩ = some (.int .i64 s.c.buckets) ∧ w'.cell? ⟨k.bw, 2, none⟩ = some (.int .i64 s.c.inserts) ∧ w'.cell? ⟨k.bw, 3, none⟩ = some (.int .i64 s.c.fuel) ∧ w'.cell? ⟨k.bw, 4, none⟩ = some (.int .i64 s.c.calls) ∧ w'.cell? ⟨k.bw, 5, none⟩ = some (.pointer (some ⟨k.bc, 0, none⟩)))
    (first
      | go_keep
      | (refine ⟨?_, ?_, ?_, ?_, ?_, ?_, ?_, ?_, ?_, ?_⟩ <;> (rw [hb2.cell (by simp; omega)]; go_simp))
      | (go_split_ands; refine ⟨?_, ?_, ?_, ?_, ?_, ?_, ?_, ?_, ?_, ?_⟩ <;> (rw [hO.cell (by have := hb2.size; simp at this; omega) (by assumption)]; assumption)))
    ((first | (go_at_call 101; refine (word_any s.c _ _ HM.out).mono ?_; rintro e w2 ⟨rfl, hb2⟩) | (go_at_call 111; refine (swap_any _ _ _ _ (h.cells' hb2)).mono ?_; rintro e w3 ⟨rfl, hC, hO⟩)))
  all_goals
    go_wp2
    go_ret
    exact ⟨rfl, h.then hb2 hO hC (ok_swap h.ok _ _ hx)⟩

set_option maxRecDepth 100000 in
set_option maxHeartbeats 1000000 in
theorem wnext_any {k : Blks} {s : St} (n : Int) (w : World) (h : Holds k s w) :
    Calls Tryz.prog 39 #[.pointer (some ⟨k.bw, 0, none⟩), .int .i64 n] w fun e w' => e = .returned (.int .u64 (s.peek (s.nextAt n))) ∧ Holds k (s.load (s.nextAt n)) w' ∧ Only (Own k) w w' := by
  go_enter Tryz.func39, Tryz.ntmps39
  go_wp2_with (first | (go_at_call 98; go_in) | (go_at_call 102; refine (next1_any n _ _ _ ((h.alloc _).alloc _) (by go_simp) (by go_simp) (h.fresh (by simp)) (h.fresh (by simp))).mono ?_; rintro e w1 ⟨rfl, hH, hO⟩))
  go_ret
  exact ⟨rfl, hH, (((Only.refl _ _).alloc _).alloc _).trans hO⟩

set_option maxRecDepth 100000 in
set_option maxHeartbeats 1000000 in
theorem wword_any {k : Blks} {s : St} (n : Int) (w : World) (h : Holds k s w) :
    Calls Tryz.prog 37 #[.pointer (some ⟨k.bw, 0, none⟩), .int .i64 n] w fun e w' => e = .returned (.int .u64 (s.peek (s.wordAt n))) ∧ Holds k (s.load (s.wordAt n)) w' ∧ Only (Own k) w w' := by
  go_enter Tryz.func37, Tryz.ntmps37
  go_wp2_with (first | (go_at_call 98; go_in) | (go_at_call 99; refine (word1_any n _ _ _ ((h.alloc _).alloc _) (by go_simp) (by go_simp) (h.fresh (by simp)) (h.fresh (by simp))).mono ?_; rintro e w1 ⟨rfl, hH, hO⟩))
  go_ret
  exact ⟨rfl, hH, (((Only.refl _ _).alloc _).alloc _).trans hO⟩

set_option maxRecDepth 100000 in
set_option maxHeartbeats 1000000 in
theorem wlink_any {k : Blks} {s : St} (n old x : Int) (w : World) (h : Holds k s w) (hx : 0 ≤ x ∧ x ≤ 18446744073709551615) :
    Calls Tryz.prog 154 #[.pointer (some ⟨k.bw, 0, none⟩), .int .i64 n, .int .u64 old, .int .u64 x] w fun e w' => e = .returned (.bool (s.swaps (s.nextAt n) old)) ∧ Holds k (s.swap (s.nextAt n) old x) w' ∧ Only (Own k) w w' := by
  go_enter Tryz.func154, Tryz.ntmps154
  go_wp2_with (first | (go_at_call 109; go_in) | (go_at_call 189; refine (link1_any n old x _ _ _ _ _ ((((h.alloc _).alloc _).alloc _).alloc _) (by go_simp) (by go_simp) (by go_simp) (by go_simp) (h.fresh (by omega)) (h.fresh (by omega)) (h.fresh (by omega)) (h.fresh (by omega)) hx).mono ?_; rintro e w1 ⟨rfl, hH, hO⟩))
  go_ret
  exact ⟨rfl, hH, (((((Only.refl _ _).alloc _).alloc _).alloc _).alloc _).trans hO⟩

set_option maxRecDepth 100000 in
set_option maxHeartbeats 1000000 in
theorem wturn_any {k : Blks} {s : St} (n old x : Int) (w : World) (h : Holds k s w) (hx : 0 ≤ x ∧ x ≤ 18446744073709551615) :
    Calls Tryz.prog 47 #[.pointer (some ⟨k.bw, 0, none⟩), .int .i64 n, .int .u64 old, .int .u64 x] w fun e w' => e = .returned (.bool (s.swaps (s.wordAt n) old)) ∧ Holds k (s.swap (s.wordAt n) old x) w' ∧ Only (Own k) w w' := by
  go_enter Tryz.func47, Tryz.ntmps47
  go_wp2_with (first | (go_at_call 109; go_in) | (go_at_call 110; refine (turn1_any n old x _ _ _ _ _ ((((h.alloc _).alloc _).alloc _).alloc _) (by go_simp) (by go_simp) (by go_simp) (by go_simp) (h.fresh (by omega)) (h.fresh (by omega)) (h.fresh (by omega)) (h.fresh (by omega)) hx).mono ?_; rintro e w1 ⟨rfl, hH, hO⟩))
  go_ret
  exact ⟨rfl, hH, (((((Only.refl _ _).alloc _).alloc _).alloc _).alloc _).trans hO⟩

end Go.Proofs.YtccmjljlfgbicaaGreat

/- Contracts of the world's Set and Head. -/
namespace Go.Proofs.YtccmjljlfgbicaaGreat
open Go.ChangeShapes Go.WideShapes Go.ChangeAt Go.RowKit

set_option maxRecDepth 100000 in
set_option maxHeartbeats 2000000 in
theorem wset_any {k : Blks} {s : St} (n x : Int) (w : World) (h : Holds k s w) (hx : 0 ≤ x ∧ x ≤ 18446744073709551615) :
    Calls Tryz.prog 59 #[.pointer (some ⟨k.bw, 0, none⟩), .int .i64 n, .int .u64 x] w fun e w' => e = .returned (.tuple #[]) ∧ Holds k (s.store (s.nextAt n) x) w' ∧ Only (Own k) w w' := by
  obtain ⟨⟨g0, g1, g2, g3, g4⟩, g5, g6, gl⟩ := h.wfacts
  have NW := cs_own h.ne_w
  go_enter Tryz.func59, Tryz.ntmps59
  go_wp2_with fail
  go_region_held3 (fun w' => w'.cell? ⟨k.bw, 0, none⟩ = some (.int .i64 s.c.threads) ∧ w'.cell? ⟨k.bw, 1, none⟩ = some (.int .i64 s.c.buckets) ∧ w'.cell? ⟨k.bw, 2, none⟩ = some (.int .i64 s.c.inserts) ∧ w'.cell? ⟨k.bw, 3, none⟩ = some (.int .i64 s.c.fuel) ∧ w'.cell? ⟨k.bw, 4, none⟩ = some (.int .i64 s.c.calls) ∧ w'.cell? ⟨k.bw, 5, none⟩ = some (.pointer (some ⟨k.bc, 0, none⟩)))
    (first
      | go_keep
      | (refine ⟨?_, ?_, ?_, ?_, ?_, ?_⟩ <;> (rw [hb2.cell (by simp; omega)]; go_simp))
      | (go_split_ands; refine ⟨?_, ?_, ?_, ?_, ?_, ?_⟩ <;> (rw [hO.cell (by have := hb2.size; simp at this; omega) (by assumption)]; assumption)))
    ((first | (go_at_call 103; refine (next_any s.c _ _).mono ?_; rintro e w2 ⟨rfl, hb2⟩) | (go_at_call 129; refine (store_any _ _ _ (h.cells' hb2)).mono ?_; rintro e w3 ⟨rfl, hC, hO⟩)))
  all_goals
    go_wp2
    go_end0
    exact ⟨rfl, h.then hb2 hO hC (ok_store h.ok _ hx)⟩

def St.head (s : St) (key : Int) : Int := atOr (bucketOf key s.c.buckets) s.c.buckets (1 + bucketOf key s.c.buckets)

set_option maxRecDepth 100000 in
set_option maxHeartbeats 2000000 in
theorem whead_any {k : Blks} {s : St} (key : Int) (w : World) (h : Holds k s w) :
    Calls Tryz.prog 151 #[.pointer (some ⟨k.bw, 0, none⟩), .int .u64 key] w fun e w' => e = .returned (.int .i64 (s.head key)) ∧ Below w.heap.size w w' := by
  obtain ⟨⟨g0, g1, g2, g3, g4⟩, g5, g6, gl⟩ := h.wfacts
  have HM := Lib.hid h.ok.may
  go_enter Tryz.func151, Tryz.ntmps151
  go_wp2_with fail
  go_region_held3 (fun w' => w'.cell? ⟨k.bw, 0, none⟩ = some (.int .i64 s.c.threads) ∧ w'.cell? ⟨k.bw, 1, none⟩ = some (.int .i64 s.c.buckets) ∧ w'.cell? ⟨k.bw, 2, none⟩ = some (.int .i64 s.c.inserts) ∧ w'.cell? ⟨k.bw, 3, none⟩ = some (.int .i64 s.c.fuel) ∧ w'.cell? ⟨k.bw, 4, none⟩ = some (.int .i64 s.c.calls))
    (first
      | go_keep
      | (refine ⟨?_, ?_, ?_, ?_, ?_⟩ <;> (rw [hb2.cell (by simp; omega)]; go_simp))
      | (go_split_ands; refine ⟨?_, ?_, ?_, ?_, ?_⟩ <;> (rw [hb3.cell (by have := hb2.size; simp at this; show k.bw < _; omega)]; assumption)))
    ((first | (go_at_call 164; refine (bucket_any _ _ _).mono ?_; rintro e w2 ⟨rfl, hb2⟩) | (go_at_call 71; refine (head_any s.c _ _ HM.out).mono ?_; rintro e w3 ⟨rfl, hb3⟩)))
  all_goals
    go_wp2
    go_ret
    exact ⟨rfl, ((Below.refl _ _).drew.trans hb2).trans (hb3.mono hb2.size)⟩

end Go.Proofs.YtccmjljlfgbicaaGreat

