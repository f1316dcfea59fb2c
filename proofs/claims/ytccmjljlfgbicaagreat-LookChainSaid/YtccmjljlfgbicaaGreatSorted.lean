/- Contract of Sorted: a scene's items, those with lesser keys first. -/
import Derived.Test.YtccmjljlfgbicaaGreatScene
namespace Go.Proofs.YtccmjljlfgbicaaGreat
open Go.ChangeShapes Go.WideShapes Go.ChangeAt Go.RowKit

theorem iinfo : (Tryz.prog.info? 107).map (fun i => (i.zero.map Value.cells, i.size, i.bytes)) = some (some #[.int .u64 0, .int .u64 0, .int .u64 0, .bool false, .bool false], 5, 32) := by kernel_rfl

theorem iinfo_of : ∃ i z, Tryz.prog.info? 107 = some i ∧ i.zero = some z ∧ z.cells.size = 5 ∧ i.size = 5 ∧ i.bytes = 32 := by
  have h := iinfo
  cases hi : Tryz.prog.info? 107 with
  | none => rw [hi] at h; cases h
  | some i =>
    rw [hi] at h
    simp only [Option.map_some, Option.some.injEq, Prod.mk.injEq] at h
    cases hz : i.zero with
    | none => rw [hz] at h; cases h.1
    | some z => rw [hz] at h; exact ⟨i, z, rfl, hz, by have := h.1; simp at this; rw [this]; rfl, h.2.1, h.2.2⟩
/-- What is known at the head of a round: so many items are placed. -/
structure Placed (x : Scene) (W0 : World) (i : Nat) (v : Value) (w : World) : Prop where
  row : w.ownsRow W0.heap.size 107 5 v i (itemsV (placed (x.items.take i)))
  below : Below W0.heap.size W0 w

theorem Placed.still {x : Scene} {W0 : World} {i : Nat} {v : Value} {w w' : World} (h : Placed x W0 i v w) (hb : Below w.heap.size w w') : Placed x W0 i v w' :=
  ⟨ownsRow_still h.row hb, h.below.trans (hb.mono h.below.size)⟩

/-- An item's mark that it is one more of an operation, taken off. -/
theorem again_row {w W0 : World} {base : Nat} {e : TypeId} {g n cap j B : Nat} {P : List GItem} {y y' : GItem} (hR : w.ownsRow base e 5 (.slice (some ⟨g, 0, none⟩) n cap) n (itemsV (clearTo P j))) (hB : Below B W0 w) (hBg : B ≤ g) (hy : P[j]? = some y) (hy' : (clearTo P j)[j]? = some y') (hl : lone P j y = true) (nq : Nat) :
    ((w.drewN nq).setCell ⟨g, j * 5 + 4, none⟩ (.bool false)).ownsRow base e 5 (.slice (some ⟨g, 0, none⟩) n cap) n (itemsV (clearTo P (j + 1))) ∧ Below B W0 ((w.drewN nq).setCell ⟨g, j * 5 + 4, none⟩ (.bool false)) := by
  have h1 := (ownsRow_still hR (bl_drewN (Below.refl _ _) nq)).stored (j * 5 + 4) (.bool false)
  refine ⟨?_, ?_⟩
  · rw [clearTo_yes hy hl hy', itemsV_again _ _ hy']
    exact h1.1
  · have hg := row_lt hR
    exact grown_below (bl_drewN hB nq) h1.2 hBg (by show B ≤ w.heap.size; omega)
theorem again_no {w W0 : World} {base : Nat} {e : TypeId} {g n cap j B : Nat} {P : List GItem} {y : GItem} (hR : w.ownsRow base e 5 (.slice (some ⟨g, 0, none⟩) n cap) n (itemsV (clearTo P j))) (hB : Below B W0 w) (hy : P[j]? = some y) (hl : lone P j y = false) (nq : Nat) :
    (w.drewN nq).ownsRow base e 5 (.slice (some ⟨g, 0, none⟩) n cap) n (itemsV (clearTo P (j + 1))) ∧ Below B W0 (w.drewN nq) := by
  rw [clearTo_no hy hl]
  exact ⟨ownsRow_still hR (bl_drewN (Below.refl _ _) nq), bl_drewN hB nq⟩

set_option maxRecDepth 100000 in
set_option maxHeartbeats 4000000 in
theorem sorted_any {x : Scene} {ia ca : Option Addr} {ic cc : Nat} (w : World) (hI : ReadAt w ia (itemsV x.items)) (hlen : x.items.length ≤ 12) :
    Calls Tryz.prog 56 #[.agg #[.int .u8 x.fuel, .slice ia x.items.length ic, .slice ca x.calls.length cc]] w
      fun e w' => ∃ v, e = .returned v ∧ w'.ownsRow w.heap.size 107 5 v x.items.length (itemsV x.sorted) ∧ Below w.heap.size w w' := by
  have HI := Lib.hid hI
  clear hI
  obtain ⟨i0, z0, hi0, hz0, hz3, hz1, hz2⟩ := iinfo_of
  go_enter Tryz.func56, Tryz.ntmps56
  go_wp2_with fail
  go_loopg [3, 4] x.items.length (fun g v3 v4 wr => ∃ i : Nat, v4 = .int .i64 i ∧ i + g = x.items.length ∧ Placed x (w.alloc (.cells #[.int .u8 x.fuel, .slice ia x.items.length ic, .slice ca x.calls.length cc] 25)) i v3 wr)
  case atStart =>
    exact ⟨0, rfl, by omega, ⟨World.ownsRow_nil _ _ _ _, Below.refl _ _⟩⟩
  case round =>
    obtain ⟨i, rfl, hi, hP⟩ := hrel
    have hb := hP.below
    have c1 : wr.cell? ⟨w.heap.size, 1, none⟩ = some (.slice ia x.items.length ic) := by rw [hb.cell (by simp)]; go_simp
    by_cases hlt : i < x.items.length
    · obtain ⟨it, hit⟩ : ∃ it, x.items[i]? = some it := ⟨_, List.getElem?_eq_getElem hlt⟩
      have hbw : Below w.heap.size w wr := ((Below.refl _ w).alloc (Nat.le_refl _) _).trans (hb.mono (by simp))
      obtain ⟨ib, io, rfl, lb, k0, k1, k2, k3, k4⟩ := item_read (HI.out.below hbw) hit
      have HIT := Lib.hid hit
      have HP := Lib.hid hP
      clear hit
      obtain ⟨hrow, _⟩ := hP
      rcases hrow.2 with ⟨rfl, rfl⟩ | ⟨g, cap, cur, rfl, hg1, hg2, hg3, hg4, hg5, hg6⟩
      · go_wp2_with fail
        go_loopg [5] 1 (fun _ v5 w5 => v5 = .int .i64 0 ∧ Placed x (w.alloc (.cells #[.int .u8 x.fuel, .slice (some ⟨ib, io, none⟩) x.items.length ic, .slice ca x.calls.length cc] 25)) 0 (.slice none 0 0) w5)
        case atStart => exact ⟨rfl, HP.out⟩
        case round =>
          obtain ⟨rfl, hP5⟩ := hrel
          have hb5 := hP5.below
          have d1 : wr.cell? ⟨w.heap.size, 1, none⟩ = some (.slice (some ⟨ib, io, none⟩) x.items.length ic) := by rw [hb5.cell (by simp)]; go_simp
          have HP5 := Lib.hid hP5
          clear hP5
          go_upto_region 6 with fail
          go_quiet (fail)
          have HQ := Lib.hid (HP5.out.still (bl_drewN (Below.refl _ _) nq))
          generalize wr.drewN nq = w6 at *
          clear d1 hb5
          have hb6 := HQ.out.below
          have d1 : w6.cell? ⟨w.heap.size, 1, none⟩ = some (.slice (some ⟨ib, io, none⟩) x.items.length ic) := by rw [hb6.cell (by simp)]; go_simp
          obtain ⟨ib', io', he, lb', n0, n1, n2, n3, n4⟩ := item_read (HI.out.below (((Below.refl _ w).alloc (Nat.le_refl _) _).trans (hb6.mono (by simp)))) HIT.out
          injection he with he; injection he with he1 he2; subst he1; subst he2
          have l6 : w.heap.size < w6.heap.size := by have := hb6.size; simp at this; omega
          have l7 : ¬ w6.heap.size = w.heap.size := by omega
          have l8 : ¬ w6.heap.size = ib := by omega
          clear hb6
          simp only [Nat.zero_mul, Nat.add_zero] at n0 n1 n2 n3 n4
          go_wp2_with (at_builtin; refine wpList_append_own _ rfl (.tmp 40) (.tmp 46) 22 rfl w6.heap.size 107 i0 z0 5 32 Tryz.underlying22 hi0 hz0 hz1 hz2 hz3 (by decide) (.slice (some ⟨w6.heap.size, 0, none⟩) 0 0) 0 [] rfl (ownsRow_still (World.ownsRow_lit w6 #[] 0 (Nat.le_refl _) (by unfold maxLen; omega) rfl) ((Below.refl _ _).alloc (Nat.le_refl _) _)) ⟨w6.heap.size + 1, 0, none⟩ 1 1 (GItem.cells it) rfl rfl ?na1 ?na2 ?na3 ?na4 ?na5 ?nan)
          case na1 => exact fun j u hu => hu
          case na2 => exact GItem.cells_one it
          case na3 => unfold maxLen; omega
          case na5 => omega
          case nan =>
            intro v2 w8 hR2 hgr2 hne2
            obtain ⟨g2, cap2, rfl, hg2a, hg2b⟩ := row_form hR2 hne2
            have hB8 : Below w6.heap.size w6 w8 := grown_below (((Below.refl _ w6).alloc (Nat.le_refl _) _).alloc (by simp) _) hgr2 (Nat.le_refl _) (by simp; omega)
            have HQ8 := Lib.hid (HQ.out.still hB8)
            clear hne2 n0 n1 n2 n3 n4 d1
            go_wp2_with fail
            go_roundg (x.items.length - 1)
            case measure => omega
            case rel =>
              refine ⟨1, rfl, by omega, ⟨?_, HQ8.out.below⟩⟩
              rw [placed_next HIT.out (n := 0) rfl]
              simpa [placed, itemsV] using hR2.mono HQ.out.below.size
      · clear hg2 hg4 hg5 hg6 cur
        have hpl : (placed (x.items.take i)).length = i := by rw [placed_len, List.length_take]; omega
        have HPL := Lib.hid hpl
        clear hpl
        go_wp2_with fail
        go_loopg [5] i (fun gg v5 w5 => ∃ n : Nat, v5 = .int .i64 n ∧ n + gg = i ∧ n ≤ place (placed (x.items.take i)) it.key ∧ Placed x (w.alloc (.cells #[.int .u8 x.fuel, .slice (some ⟨ib, io, none⟩) x.items.length ic, .slice ca x.calls.length cc] 25)) i (.slice (some ⟨g, 0, none⟩) i cap) w5)
        case atStart => exact ⟨0, rfl, by omega, Nat.zero_le _, HP.out⟩
        case round =>
          obtain ⟨n, rfl, hn, hnp, hP5⟩ := hrel
          have hb5 := hP5.below
          have hbw5 : Below w.heap.size w wr := ((Below.refl _ w).alloc (Nat.le_refl _) _).trans (hb5.mono (by simp))
          have d1 : wr.cell? ⟨w.heap.size, 1, none⟩ = some (.slice (some ⟨ib, io, none⟩) x.items.length ic) := by rw [hb5.cell (by simp)]; go_simp
          obtain ⟨ib', io', he, lb', n0, n1, n2, n3, n4⟩ := item_read (HI.out.below hbw5) HIT.out
          injection he with he; injection he with he1 he2; subst he1; subst he2
          have hcond : (n < i ∧ n + 1 ≤ place (placed (x.items.take i)) it.key ∧ ∃ key : Int, wr.cell? ⟨g, n * 5, none⟩ = some (.int .u64 key) ∧ key ≤ it.key) ∨
              (n < i ∧ n = place (placed (x.items.take i)) it.key ∧ ∃ key : Int, wr.cell? ⟨g, n * 5, none⟩ = some (.int .u64 key) ∧ ¬ key ≤ it.key) ∨ (¬ n < i ∧ n = place (placed (x.items.take i)) it.key) := by
            by_cases hni : n < i
            · obtain ⟨it2, h2⟩ : ∃ it2, (placed (x.items.take i))[n]? = some it2 := ⟨_, List.getElem?_eq_getElem (by rw [HPL.out]; exact hni)⟩
              have hcell := row_cell hP5.row (itemsV_get h2).1
              have hst := place_step hnp h2
              by_cases hk : it2.key ≤ it.key
              · exact .inl ⟨hni, hst.1 hk, _, hcell, hk⟩
              · exact .inr (.inl ⟨hni, hst.2 hk, _, hcell, hk⟩)
            · have := place_le (placed (x.items.take i)) it.key
              rw [HPL.out] at this
              exact .inr (.inr ⟨by omega, by omega⟩)
          have HP5 := Lib.hid hP5
          clear hP5
          rcases hcond with ⟨hni, hpl2, key, hcell, hk⟩ | ⟨hni, hpl2, key, hcell, hk⟩ | ⟨hni, hpl2⟩
          · go_wp2_with fail
            go_quiet (fail)
            go_wp2_with fail
            go_roundg (i - (n + 1))
            case measure => omega
            case rel => exact ⟨n + 1, rfl, by omega, hpl2, HP5.out.still (bl_drewN (Below.refl _ _) _)⟩
          · have HPN := Lib.hid hpl2
            clear hpl2
            go_upto_region 6 with fail
            go_quiet (fail)
            have HQ := Lib.hid (HP5.out.still (bl_drewN (Below.refl _ _) nq))
            have hnc : n ≤ cap := by omega
            generalize wr.drewN nq = w6 at *
            try clear hcell
            clear n0 n1 n2 n3 n4 d1 hb5 hbw5
            go_wp2_with (at_builtin; refine wpList_append_own _ rfl (.tmp 35) (.tmp 38) 22 rfl w6.heap.size 107 i0 z0 5 32 Tryz.underlying22 hi0 hz0 hz1 hz2 hz3 (by decide) (.slice (some ⟨w6.heap.size, 0, none⟩) 0 0) 0 [] rfl (World.ownsRow_lit w6 #[] 0 (Nat.le_refl _) (by unfold maxLen; omega) rfl) ⟨g, 0, none⟩ n cap ((itemsV (placed (x.items.take i))).take (n * 5)) rfl ?aa1 ?aa2 ?aa3 ?aa4 ?aa5 ?aa6 ?aan)
            case aa1 => rw [itemsV_len, HPL.out]; omega
            case aa2 =>
              intro j u hu
              rw [((Below.refl _ w6).alloc (Nat.le_refl _) _).cell (p := ⟨g, j, none⟩) (row_lt HQ.out.row)]
              exact row_cell HQ.out.row (take_get hu)
            case aa3 => exact fun u hu => itemsV_one _ u (List.mem_of_mem_take hu)
            case aa4 => unfold maxLen; omega
            case aa5 => omega
            case aan =>
              intro v1 w7 hR1 hgr1 hne1
              obtain ⟨g1, cap1, rfl, hg1a, hg1b⟩ := row_form hR1 hne1
              have hB7 : Below w6.heap.size w6 w7 := grown_below ((Below.refl _ w6).alloc (Nat.le_refl _) _) hgr1 (Nat.le_refl _) (by simp)
              have hb7 := (HQ.out.still hB7).below
              have d1 : w7.cell? ⟨w.heap.size, 1, none⟩ = some (.slice (some ⟨ib, io, none⟩) x.items.length ic) := by rw [hb7.cell (by simp)]; go_simp
              obtain ⟨ib', io', he, lb', n0, n1, n2, n3, n4⟩ := item_read (HI.out.below (((Below.refl _ w).alloc (Nat.le_refl _) _).trans (hb7.mono (by simp)))) HIT.out
              injection he with he; injection he with he1 he2; subst he1; subst he2
              have hs67 := hB7.size
              clear hne1 hb7
              go_wp2_with (at_builtin; refine wpList_append_own _ rfl (.tmp 40) (.tmp 46) 22 rfl w6.heap.size 107 i0 z0 5 32 Tryz.underlying22 hi0 hz0 hz1 hz2 hz3 (by decide) (.slice (some ⟨g1, 0, none⟩) n cap1) n _ rfl (ownsRow_still hR1 ((Below.refl _ w7).alloc (Nat.le_refl _) _)) ⟨w7.heap.size, 0, none⟩ 1 1 (GItem.cells it) rfl rfl ?ab1 ?ab2 ?ab3 ?ab4 ?ab5 ?abn)
              case ab1 => exact fun j u hu => hu
              case ab2 => exact GItem.cells_one it
              case ab3 => unfold maxLen; omega
              case ab4 => omega
              case ab5 => omega
              case abn =>
                intro v2 w8 hR2 hgr2 hne2
                obtain ⟨g2, cap2, rfl, hg2a, hg2b⟩ := row_form hR2 hne2
                have hB8 : Below w6.heap.size w6 w8 := grown_below (hB7.trans ((Below.refl _ w7).alloc hs67 _)) hgr2 hg1a (by simp; omega)
                have hs68 := hB8.size
                have HQ8 := Lib.hid (HQ.out.still hB8)
                clear hne2 n0 n1 n2 n3 n4 d1
                go_wp2_with (at_builtin; refine wpList_append_own _ rfl (.tmp 48) (.tmp 51) 22 rfl w6.heap.size 107 i0 z0 5 32 Tryz.underlying22 hi0 hz0 hz1 hz2 hz3 (by decide) (.slice (some ⟨g2, 0, none⟩) (n + 1) cap2) (n + 1) _ rfl hR2 ⟨g, n * 5, none⟩ (i - n) (cap - n) ((itemsV (placed (x.items.take i))).drop (n * 5)) rfl ?ac1 ?ac2 ?ac3 ?ac4 ?ac5 ?ac6 ?acn)
                case ac1 => rw [List.length_drop, itemsV_len, HPL.out]; omega
                case ac2 =>
                  intro j u hu
                  rw [List.getElem?_drop] at hu
                  rw [Addr.add_lit]
                  exact row_cell HQ8.out.row hu
                case ac3 => exact fun u hu => itemsV_one _ u (List.mem_of_mem_drop hu)
                case ac4 => unfold maxLen; omega
                case ac5 => omega
                case ac6 => exact hs68
                case acn =>
                  intro v3 w9 hR3 hgr3 hne3
                  have hB9 := grown_below hB8 hgr3 hg2a hs68
                  have hni1 : n + 1 + (i - n) = i + 1 := by omega
                  rw [hni1] at hR3
                  have HR3 := Lib.hid (And.intro hR3 hB9)
                  clear hR3 hgr3 hne3 hB9 hni1
                  go_wp2_with fail
                  go_roundg (x.items.length - (i + 1))
                  case measure => omega
                  case rel =>
                    refine ⟨i + 1, rfl, by omega, ⟨?_, (HQ.out.still HR3.out.2).below⟩⟩
                    rw [placed_next HIT.out HPN.out, List.append_assoc]
                    exact HR3.out.1.mono HQ.out.below.size
          · have HPN := Lib.hid hpl2
            clear hpl2
            go_upto_region 6 with fail
            go_quiet (fail)
            have HQ := Lib.hid (HP5.out.still (bl_drewN (Below.refl _ _) nq))
            have hnc : n ≤ cap := by omega
            generalize wr.drewN nq = w6 at *
            try clear hcell
            clear n0 n1 n2 n3 n4 d1 hb5 hbw5
            go_wp2_with (at_builtin; refine wpList_append_own _ rfl (.tmp 35) (.tmp 38) 22 rfl w6.heap.size 107 i0 z0 5 32 Tryz.underlying22 hi0 hz0 hz1 hz2 hz3 (by decide) (.slice (some ⟨w6.heap.size, 0, none⟩) 0 0) 0 [] rfl (World.ownsRow_lit w6 #[] 0 (Nat.le_refl _) (by unfold maxLen; omega) rfl) ⟨g, 0, none⟩ n cap ((itemsV (placed (x.items.take i))).take (n * 5)) rfl ?ba1 ?ba2 ?ba3 ?ba4 ?ba5 ?ba6 ?ban)
            case ba1 => rw [itemsV_len, HPL.out]; omega
            case ba2 =>
              intro j u hu
              rw [((Below.refl _ w6).alloc (Nat.le_refl _) _).cell (p := ⟨g, j, none⟩) (row_lt HQ.out.row)]
              exact row_cell HQ.out.row (take_get hu)
            case ba3 => exact fun u hu => itemsV_one _ u (List.mem_of_mem_take hu)
            case ba4 => unfold maxLen; omega
            case ba5 => omega
            case ban =>
              intro v1 w7 hR1 hgr1 hne1
              obtain ⟨g1, cap1, rfl, hg1a, hg1b⟩ := row_form hR1 hne1
              have hB7 : Below w6.heap.size w6 w7 := grown_below ((Below.refl _ w6).alloc (Nat.le_refl _) _) hgr1 (Nat.le_refl _) (by simp)
              have hb7 := (HQ.out.still hB7).below
              have d1 : w7.cell? ⟨w.heap.size, 1, none⟩ = some (.slice (some ⟨ib, io, none⟩) x.items.length ic) := by rw [hb7.cell (by simp)]; go_simp
              obtain ⟨ib', io', he, lb', n0, n1, n2, n3, n4⟩ := item_read (HI.out.below (((Below.refl _ w).alloc (Nat.le_refl _) _).trans (hb7.mono (by simp)))) HIT.out
              injection he with he; injection he with he1 he2; subst he1; subst he2
              have hs67 := hB7.size
              clear hne1 hb7
              go_wp2_with (at_builtin; refine wpList_append_own _ rfl (.tmp 40) (.tmp 46) 22 rfl w6.heap.size 107 i0 z0 5 32 Tryz.underlying22 hi0 hz0 hz1 hz2 hz3 (by decide) (.slice (some ⟨g1, 0, none⟩) n cap1) n _ rfl (ownsRow_still hR1 ((Below.refl _ w7).alloc (Nat.le_refl _) _)) ⟨w7.heap.size, 0, none⟩ 1 1 (GItem.cells it) rfl rfl ?bb1 ?bb2 ?bb3 ?bb4 ?bb5 ?bbn)
              case bb1 => exact fun j u hu => hu
              case bb2 => exact GItem.cells_one it
              case bb3 => unfold maxLen; omega
              case bb4 => omega
              case bb5 => omega
              case bbn =>
                intro v2 w8 hR2 hgr2 hne2
                obtain ⟨g2, cap2, rfl, hg2a, hg2b⟩ := row_form hR2 hne2
                have hB8 : Below w6.heap.size w6 w8 := grown_below (hB7.trans ((Below.refl _ w7).alloc hs67 _)) hgr2 hg1a (by simp; omega)
                have hs68 := hB8.size
                have HQ8 := Lib.hid (HQ.out.still hB8)
                clear hne2 n0 n1 n2 n3 n4 d1
                by_cases hcn : n < cap
                · go_wp2_with (at_builtin; refine wpList_append_own _ rfl (.tmp 48) (.tmp 51) 22 rfl w6.heap.size 107 i0 z0 5 32 Tryz.underlying22 hi0 hz0 hz1 hz2 hz3 (by decide) (.slice (some ⟨g2, 0, none⟩) (n + 1) cap2) (n + 1) _ rfl hR2 ⟨g, n * 5, none⟩ (i - n) (cap - n) ((itemsV (placed (x.items.take i))).drop (n * 5)) rfl ?bc1 ?bc2 ?bc3 ?bc4 ?bc5 ?bc6 ?bcn)
                  case bc1 => rw [List.length_drop, itemsV_len, HPL.out]; omega
                  case bc2 =>
                    intro j u hu
                    rw [List.getElem?_drop] at hu
                    rw [Addr.add_lit]
                    exact row_cell HQ8.out.row hu
                  case bc3 => exact fun u hu => itemsV_one _ u (List.mem_of_mem_drop hu)
                  case bc4 => unfold maxLen; omega
                  case bc5 => omega
                  case bc6 => exact hs68
                  case bcn =>
                    intro v3 w9 hR3 hgr3 hne3
                    have hB9 := grown_below hB8 hgr3 hg2a hs68
                    have hni1 : n + 1 + (i - n) = i + 1 := by omega
                    rw [hni1] at hR3
                    have HR3 := Lib.hid (And.intro hR3 hB9)
                    clear hR3 hgr3 hne3 hB9 hni1
                    go_wp2_with fail
                    go_roundg (x.items.length - (i + 1))
                    case measure => omega
                    case rel =>
                      refine ⟨i + 1, rfl, by omega, ⟨?_, (HQ.out.still HR3.out.2).below⟩⟩
                      rw [placed_next HIT.out HPN.out, List.append_assoc]
                      exact HR3.out.1.mono HQ.out.below.size
                · obtain rfl : cap = n := by omega
                  go_wp2_with (at_builtin; refine wpList_append_own _ rfl (.tmp 48) (.tmp 51) 22 rfl w6.heap.size 107 i0 z0 5 32 Tryz.underlying22 hi0 hz0 hz1 hz2 hz3 (by decide) (.slice (some ⟨g2, 0, none⟩) (n + 1) cap2) (n + 1) _ rfl hR2 ⟨g, 0, none⟩ (i - n) 0 ((itemsV (placed (x.items.take i))).drop (n * 5)) rfl ?bd1 ?bd2 ?bd3 ?bd4 ?bd5 ?bd6 ?bdn)
                  go_roundg (x.items.length - (i + 1))
                  case measure => omega
                  case rel =>
                    refine ⟨i + 1, rfl, by omega, ⟨?_, HQ8.out.below⟩⟩
                    rw [placed_next HIT.out HPN.out, List.drop_eq_nil_of_le (by rw [itemsV_len, HPL.out]; omega), List.append_nil, show i + 1 = cap + 1 by omega]
                    exact hR2.mono HQ.out.below.size
    · have hil : i = x.items.length := by omega
      obtain ⟨hrow, hbel⟩ := hP
      rw [hil, List.take_length] at hrow
      rcases hrow.2 with ⟨rfl, hz⟩ | ⟨g0, cap, cur, rfl, hg1, hg2, hg3, hg4, hg5, hg6⟩
      · go_wp2_with fail
        go_loopg [7] 1 (fun _ v7 w7 => v7 = .int .i64 0 ∧ w7 = wr)
        case atStart => exact ⟨rfl, rfl⟩
        case round =>
          obtain ⟨rfl, rfl⟩ := hrel
          go_wp2_with fail
          go_ret
          refine ⟨_, rfl, ?_, ((Below.refl _ w).alloc (Nat.le_refl _) _).trans (hb.mono (by simp))⟩
          have h0 : x.items.length = 0 := hz
          have h1 : placed x.items = [] := List.eq_nil_of_length_eq_zero (by rw [placed_len]; exact h0)
          have h2 : x.sorted = [] := by unfold Scene.sorted; rw [h1]; rfl
          rw [h0, h2]
          exact World.ownsRow_nil _ _ _ _
      · clear hg2 hg4 hg5 hg6 cur
        have HR := Lib.hid (And.intro hrow hb)
        have HPL := Lib.hid (placed_len x.items)
        clear hrow hbel hb hil
        go_wp2_with fail
        go_loopg [7] x.items.length (fun gg v7 w7 => ∃ j : Nat, v7 = .int .i64 j ∧ j + gg = x.items.length ∧ (w7.ownsRow (w.heap.size + 1) 107 5 (.slice (some ⟨g0, 0, none⟩) x.items.length cap) x.items.length (itemsV (clearTo (placed x.items) j)) ∧ Below (w.heap.size + 1) (w.alloc (.cells #[.int .u8 x.fuel, .slice ia x.items.length ic, .slice ca x.calls.length cc] 25)) w7))
        case atStart =>
          refine ⟨0, rfl, by omega, ?_⟩
          rw [clearTo_zero]
          simpa using HR.out
        case round =>
          obtain ⟨j, rfl, hj, hR, hB⟩ := hrel
          by_cases hjl : j < x.items.length
          · obtain ⟨y, hy⟩ : ∃ y, (placed x.items)[j]? = some y := ⟨_, List.getElem?_eq_getElem (by rw [HPL.out]; exact hjl)⟩
            obtain ⟨y', hy', hyk⟩ := clearTo_key (j := j) hy
            have k1 := row_cell hR (itemsV_get hy').1
            have f4 := hR.frozenAt (j * 5 + 4)
            have k4 := row_cell hR (itemsV_get hy').2.2.2.2
            have lg := row_lt hR
            rw [hyk] at k1
            have HJ := Lib.hid (And.intro hy (And.intro hy' (And.intro hR hB)))
            clear hy' hR hB
            rcases Nat.eq_zero_or_pos j with rfl | hj0
            · simp only [Nat.zero_mul, Nat.zero_add] at k1 f4 k4
              clear hy
              go_wp2_with fail
              go_quiet (fail)
              go_wp2_with fail
              go_roundg (x.items.length - 1)
              case measure => omega
              case rel =>
                obtain ⟨hy, hy', hR, hB⟩ := HJ.out
                have hA := again_row hR hB (by simpa using hg1) hy hy' rfl nq
                simp only [Nat.zero_mul, Nat.zero_add] at hA
                exact ⟨1, rfl, by omega, hA⟩
            · obtain ⟨m, hm⟩ : ∃ m, j = m + 1 := ⟨j - 1, by omega⟩
              have hml : m < x.items.length := by omega
              obtain ⟨p, hp⟩ : ∃ p, (placed x.items)[m]? = some p := ⟨_, List.getElem?_eq_getElem (by rw [HPL.out]; omega)⟩
              obtain ⟨p', hp', hpk⟩ := clearTo_key (j := j) hp
              have k0 := row_cell HJ.out.2.2.1 (itemsV_get hp').1
              rw [hpk] at k0
              clear hp'
              have HP0 := Lib.hid hp
              clear hp hy
              have e0 : ((j : Int) == 0) = false := by simp; omega
              have e1 : IntKind.i64.wrap ((j : Int) - 1) = (m : Int) := by rw [IntWalk.i64_in _ (by omega)]; omega
              have HM := Lib.hid hm
              clear hm hj0
              by_cases hk : p.key = y.key
              · have hkk := Lib.hid hk
                rw [hk] at k0
                clear hk
                go_wp2_with fail
                go_quiet (fail)
                go_wp2_with fail
                go_roundg (x.items.length - (j + 1))
                case measure => omega
                case rel =>
                  obtain ⟨hy, hy', hR, hB⟩ := HJ.out
                  exact ⟨j + 1, rfl, by omega, again_no hR hB hy (by unfold lone; rw [HM.out, Nat.add_sub_cancel, HP0.out, Option.map_some, hkk.out]; simp) _⟩
              · have hkf : (p.key == y.key) = false := by simpa using hk
                have hkk := Lib.hid hk
                clear hk
                go_wp2_with fail
                go_quiet (fail)
                go_wp2_with fail
                go_roundg (x.items.length - (j + 1))
                case measure => omega
                case rel =>
                  obtain ⟨hy, hy', hR, hB⟩ := HJ.out
                  exact ⟨j + 1, rfl, by omega, again_row hR hB (by simpa using hg1) hy hy' (by unfold lone; rw [HM.out, Nat.add_sub_cancel, HP0.out, Option.map_some]; simp [hkk.out]) _⟩
          · obtain rfl : j = x.items.length := by omega
            go_wp2_with fail
            go_ret
            refine ⟨_, rfl, ?_, ((Below.refl _ w).alloc (Nat.le_refl _) _).trans (hB.mono (by omega))⟩
            unfold Scene.sorted
            rw [HPL.out]
            exact hR.mono (by omega)

end Go.Proofs.YtccmjljlfgbicaaGreat
