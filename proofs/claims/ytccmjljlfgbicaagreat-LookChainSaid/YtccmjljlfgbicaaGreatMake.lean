/- The contract of the book's Make: a node is written down. -/
import Derived.Test.YtccmjljlfgbicaaGreatBegin
namespace Go.Proofs.YtccmjljlfgbicaaGreat
open Go.ChangeShapes Go.WideShapes Go.ChangeAt Go.RowKit

/-- A node is written down: the state, the node, the error's number. -/
def St.make (s : St) (n op : Int) : St × Int × Int :=
  match thrAt s.thr n with
  | none => (s, 0, 1)
  | some t =>
    if (s.callOf op).isNone then (s, 0, 1)
    else if t.made = 2 * s.c.calls then (s, 0, 3)
    else ({ s with thr := s.thr.set n.toNat { t with made := t.made + 1 }, nodes := s.nodes ++ [(1 + s.c.buckets + n * (2 * s.c.calls) + t.made, op)] }, 1 + s.c.buckets + n * (2 * s.c.calls) + t.made, 0)

theorem fresh_node {s : St} (h : s.ok) {i : Nat} {t : Thr} (ht : s.thr[i]? = some t) (hlt : t.made < 2 * s.c.calls) : look1 s.nodes (1 + s.c.buckets + i * (2 * s.c.calls) + t.made) = none := by
  cases hl : look1 s.nodes (1 + s.c.buckets + i * (2 * s.c.calls) + t.made) with
  | none => rfl
  | some c =>
    exfalso
    obtain ⟨j, u, hu, l1, l2⟩ := h.nodes _ (look1_mem hl)
    simp only [] at l1 l2
    have hc := may_bounds h.may
    have ct := h.counts t (List.mem_of_getElem? ht)
    have cu := h.counts u (List.mem_of_getElem? hu)
    generalize 2 * s.c.calls = m at *
    rcases Nat.lt_trichotomy i j with e | e | e
    · have : ((i : Int) + 1) * m ≤ j * m := Int.mul_le_mul_of_nonneg_right (by omega) (by omega)
      rw [Int.add_mul] at this
      omega
    · subst e
      rw [ht] at hu; cases hu
      omega
    · have : ((j : Int) + 1) * m ≤ i * m := Int.mul_le_mul_of_nonneg_right (by omega) (by omega)
      rw [Int.add_mul] at this
      omega
theorem nodesV_snoc (l : List (Int × Int)) (n c : Int) : nodesV l ++ [(n, Value.int .i64 c)] = nodesV (l ++ [(n, c)]) := by simp [nodesV]
theorem putNodes {w : World} {g : Nat} {l : List (Int × Int)} {n c : Int} (h : MapAt w g (nodesV l)) : MapAt (putObj w g (.map (mkMap (nodesV l ++ [(n, .int .i64 c)])) ((nodesV l).length + 1))) g (nodesV (l ++ [(n, c)])) := by
  have e : (nodesV l).length + 1 = (nodesV l ++ [(n, Value.int .i64 c)]).length := by simp
  rw [e, nodesV_snoc]
  exact putObj_map h
theorem ok_nodes {s : St} (h : s.ok) {i : Nat} {t : Thr} {n c : Int} (ht : s.thr[i]? = some t) (h1 : 1 + s.c.buckets + i * (2 * s.c.calls) ≤ n) (h2 : n < 1 + s.c.buckets + i * (2 * s.c.calls) + t.made) : St.ok { s with nodes := s.nodes ++ [(n, c)] } := by
  refine ⟨h.may, h.thr, h.len, h.words, h.counts, h.ops, ?_⟩
  intro p hp
  rcases List.mem_append.1 hp with hp | hp
  · exact h.nodes p hp
  · obtain rfl := List.mem_singleton.1 hp
    exact ⟨i, t, ht, h1, h2⟩

set_option maxRecDepth 100000 in
set_option maxHeartbeats 2000000 in
theorem make_any {k : Blks} {s : St} (n op : Int) (w : World) (h : Holds k s w) :
    Calls Tryz.prog 58 #[.pointer (some ⟨k.bb, 0, none⟩), .int .i64 n, .int .i64 op] w fun e w' => e = .returned (.tuple #[.int .i64 (s.make n op).2.1, .int .i64 (s.make n op).2.2]) ∧ Holds k (s.make n op).1 w' ∧ Only (Own k) w w' := by
  obtain ⟨⟨g0, g1, g2, g3, g4⟩, b5, b6, b7, bl⟩ := h.bfacts
  rcases thrAt_cases s.thr n with ⟨i, t, rfl, hi, ht, hta⟩ | ⟨hta, hn⟩
  · cases hl : s.callOf op with
    | none =>
      have Hb := Lib.hid (show s.make (i : Int) op = (s, 0, 1) by unfold St.make; rw [hta, hl]; rfl)
      have hrun := run_lookup_out (P := Tryz.prog) Tryz.underlying160 Tryz.underlying3 h.ops (k := op) (z := .agg #[.int .i64 0, .int .u64 0, .int .u64 0, .int .i64 0]) (by intro w; kernel_rfl) (by rw [look_ops, hl]; rfl)
      clear hta ht hl
      go_enter Tryz.func58, Tryz.ntmps58
      go_wp2_with (first | (go_at_call 126; refine (thread_in i _ h hi).mono ?_; rintro e w1 ⟨rfl, rfl⟩))
      go_ret2
      rw [Hb.out]
      exact ⟨rfl, h.alloc _, (Only.refl _ _).alloc _⟩
    | some c =>
      have hrun := run_lookup_in (P := Tryz.prog) Tryz.underlying160 Tryz.underlying3 h.ops (k := op) (v := c.v) (by rw [look_ops, hl]; rfl)
      obtain ⟨c0, c1, c2, z0, z1, z2, bt⟩ := h.tfacts ht
      have hcnt := h.ok.counts t (List.mem_of_getElem? ht)
      have hm := h.ok.may
      obtain ⟨a1, a2, b1, b2, c1', c2', _, _, a3, a4⟩ := may_bounds hm
      have ew : IntKind.i64.wrap (2 * s.c.calls) = 2 * s.c.calls := IntWalk.i64_in _ (by omega)
      have hth := h.ok.thr
      have hit : (i : Int) < s.c.threads := by omega
      by_cases he : t.made = 2 * s.c.calls
      · have Hb := Lib.hid (show s.make (i : Int) op = (s, 0, 3) by unfold St.make; rw [hta, hl]; simp only []; rw [if_neg (by simp), if_pos he])
        have he' : (t.made == 2 * s.c.calls) = true := by simpa using he
        clear hta ht he hl hm
        go_enter Tryz.func58, Tryz.ntmps58
        go_wp2_with (first | (go_at_call 126; refine (thread_in i _ h hi).mono ?_; rintro e w1 ⟨rfl, rfl⟩))
        go_quiet (fail)
        go_wp2
        go_ret2
        rw [Hb.out]
        exact ⟨rfl, (h.alloc _).drewN _, ((Only.refl _ _).alloc _).drewN _⟩
      · have he' : (t.made == 2 * s.c.calls) = false := by simpa using he
        have Hb := Lib.hid (show s.make (i : Int) op = ({ s with thr := s.thr.set i { t with made := t.made + 1 }, nodes := s.nodes ++ [(1 + s.c.buckets + i * (2 * s.c.calls) + t.made, op)] }, 1 + s.c.buckets + i * (2 * s.c.calls) + t.made, 0) by unfold St.make; rw [hta, hl]; simp only []; rw [if_neg (by simp), if_neg he]; rfl)
        have Hof := Lib.hid (show ofOr s.c i t.made (2 * s.c.calls) (1 + s.c.buckets) = 1 + s.c.buckets + i * (2 * s.c.calls) + t.made by unfold ofOr; rw [if_pos (by omega), atOr_in (by omega)])
        have HM := Lib.hid hm
        have Ht := Lib.hid ht
        have HN := Lib.hid (fresh_node h.ok ht (by omega))
        clear hta ht he hl hm
        go_enter Tryz.func58, Tryz.ntmps58
        go_wp2_with (first | (go_at_call 126; refine (thread_in i _ h hi).mono ?_; rintro e w1 ⟨rfl, rfl⟩))
        go_quiet (fail)
        go_wp2_with fail
        go_region_held3 (fun w' => w'.cell? ⟨k.bb, 0, none⟩ = some (.int .i64 s.c.threads) ∧ w'.cell? ⟨k.bb, 1, none⟩ = some (.int .i64 s.c.buckets) ∧ w'.cell? ⟨k.bb, 2, none⟩ = some (.int .i64 s.c.inserts) ∧ w'.cell? ⟨k.bb, 3, none⟩ = some (.int .i64 s.c.fuel) ∧ w'.cell? ⟨k.bb, 4, none⟩ = some (.int .i64 s.c.calls) ∧ w'.cell? ⟨k.bt, i * 3 + 2, none⟩ = some (.int .i64 t.made)) (first | go_keep | (refine ⟨?_, ?_, ?_, ?_, ?_, ?_⟩ <;> (rw [hb2.cell (by simp; omega)]; go_simp))) ((go_at_call 128; refine (node_any s.c _ _ _ HM.out).mono ?_; rintro e w2 ⟨rfl, hb2⟩))
        have H2 : Holds k s w2 := ((h.alloc _).drewN _).below hb2
        have O2 : Below w.heap.size w w2 := (bl_drewN ((Below.refl _ _).alloc (Nat.le_refl _) _) _).trans (hb2.mono (by simp))
        obtain ⟨⟨u0, u1, u2, u3, u4⟩, u5, u6, u7, ul⟩ := H2.bfacts
        obtain ⟨v0, v1, v2, vz0, vz1, vz2, vl⟩ := H2.tfacts Ht.out
        have nbt := H2.bbt
        have nbt' : ¬ k.bt = k.bb := fun e => nbt e.symm
        have ei : IntKind.i64.wrap (t.made + 1) = t.made + 1 := IntWalk.i64_in _ (by omega)
        go_wp2_with fail
        have hA : At (w2.setCell ⟨k.bt, i * 3 + 2, none⟩ (.int .i64 (t.made + 1))) k.bt 189 (thrCells (s.thr.set i { t with made := t.made + 1 })) := by
          rw [← thrCells_set2 _ _ _ _ Ht.out]; exact H2.thr.set _ _
        have hO : Only (fun j => j = k.bt) w2 (w2.setCell ⟨k.bt, i * 3 + 2, none⟩ (.int .i64 (t.made + 1))) := (Only.refl (fun j => j = k.bt) w2).set (p := ⟨k.bt, i * 3 + 2, none⟩) (.inl rfl) _
        have H3 := H2.threads hO hA (by simp) (ok_thr H2.ok Ht.out (Int.le_refl _) (by show t.made ≤ t.made + 1; omega) ⟨hcnt.1, hcnt.2.1, hcnt.2.2.1, hcnt.2.2.2.1, by show 0 ≤ t.made + 1; omega, by show t.made + 1 ≤ _; have := he'; simp at this; omega⟩)
        have O3 : Only (Own k) w (w2.setCell ⟨k.bt, i * 3 + 2, none⟩ (.int .i64 (t.made + 1))) := (Only.ofBelow _ O2).trans (only_bt hO)
        generalize w2.setCell ⟨k.bt, i * 3 + 2, none⟩ (.int .i64 (t.made + 1)) = w3 at *
        clear hO hA O2 H2 u0 u1 u2 u3 u4 u5 u6 u7 v0 v1 v2 vz0 vz1 vz2
        obtain ⟨_, u5, u6, u7, ul3⟩ := H3.bfacts
        have hrun2 := run_update_new (P := Tryz.prog) Tryz.underlying161 Tryz.underlying3 H3.nodes (k := 1 + s.c.buckets + i * (2 * s.c.calls) + t.made) (by rw [look_nodes]; show (look1 s.nodes _).map _ = none; rw [HN.out]; rfl) (.int .i64 op)
        rw [Hof.out]
        go_wp2
        go_ret2
        rw [Hb.out]
        exact ⟨rfl, H3.nodesPut putObj_only (putNodes H3.nodes) (ok_nodes H3.ok (i := i) (t := { t with made := t.made + 1 }) (by simp [hi]) (by show 1 + s.c.buckets + i * (2 * s.c.calls) ≤ 1 + s.c.buckets + i * (2 * s.c.calls) + t.made; omega) (by show 1 + s.c.buckets + i * (2 * s.c.calls) + t.made < 1 + s.c.buckets + i * (2 * s.c.calls) + (t.made + 1); omega)), O3.trans (putObj_only.mono fun _ _ e => .inr (.inr (.inr (.inr e))))⟩
  · have Hb := Lib.hid (show s.make n op = (s, 0, 1) by unfold St.make; rw [hta])
    clear hta
    go_enter Tryz.func58, Tryz.ntmps58
    go_wp2_with (first | (go_at_call 126; refine (thread_out n _ h hn).mono ?_; rintro e w1 ⟨rfl, rfl⟩))
    go_ret2
    rw [Hb.out]
    exact ⟨rfl, h, Only.refl _ _⟩

end Go.Proofs.YtccmjljlfgbicaaGreat
