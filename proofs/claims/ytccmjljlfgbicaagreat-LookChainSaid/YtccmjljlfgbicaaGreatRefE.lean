/- Contracts of the document's answer: cells. -/
import Derived.Test.YtccmjljlfgbicaaGreatMin
import Derived.Test.YtccmjljlfgbicaaGreatRefD
import Derived.Test.YtccmjljlfgbicaaGreatLayA
import Derived.Test.YtccmjljlfgbicaaGreatNew
namespace Go.Proofs.YtccmjljlfgbicaaGreat
open Go.ChangeShapes Go.WideShapes Go.ChangeAt Go.RowKit

/-- A slice's address, and its capacity. -/
abbrev Sl := Option Addr × Nat
abbrev Sl.v (p : Sl) (n : Nat) : Value := .slice p.1 n p.2
/-- The answer's cells, as a value. -/
abbrev cv (p : Sl) (l : List Int) (st : Int) : Value := .agg #[.slice p.1 l.length p.2, .int .i64 st]
def wordsV (l : List Int) : List Value := l.map (Value.int .u64)

/-- What comes out: cells with these words, so many steps, in a form. -/
def CellsOut (w : World) (ao0 : Option Addr) (f : Value → Value) (l : List Int) (st : Int) (e : Ending) (w' : World) : Prop :=
  ∃ (ao : Option Addr) (cap : Nat), e = .returned (f (cv (ao, cap) l st)) ∧ ReadAt w' ao (wordsV l) ∧ Below w.heap.size w w' ∧ (ao = ao0 ∨ ∃ g, ao = some ⟨g, 0, none⟩ ∧ w.heap.size ≤ g)
theorem ReadAt.only {w w' : World} {ao : Option Addr} {xs : List Value} {S : Nat → Prop} (h : ReadAt w ao xs) (ho : Only S w w') (hS : ∀ b o, ao = some ⟨b, o, none⟩ → b < w.heap.size → ¬ S b) : ReadAt w' ao xs := by
  intro j u hu
  obtain ⟨b, o, h1, h2⟩ := h j u hu
  have hb := World.block_lt_of_cell? w _ h2
  exact ⟨b, o, h1, by rw [World.cell?_of_block (ho.block b hb (hS b o h1 hb))]; exact h2⟩

theorem read_word {w : World} {ao : Option Addr} {l : List Int} {n : Nat} {x : Int} (h : ReadAt w ao (wordsV l)) (hx : l[n]? = some x) : ∃ b o, ao = some ⟨b, o, none⟩ ∧ b < w.heap.size ∧ w.cell? ⟨b, o + n, none⟩ = some (.int .u64 x) := by
  obtain ⟨b, o, h1, h2⟩ := h n (.int .u64 x) (by simp [wordsV, hx])
  exact ⟨b, o, h1, World.block_lt_of_cell? w _ h2, h2⟩

set_option maxRecDepth 100000 in
set_option maxHeartbeats 1000000 in
theorem rpeek_any {p : Sl} {l : List Int} {st : Int} (n : Int) (w : World) (h : ReadAt w p.1 (wordsV l)) :
    Calls Tryz.prog 139 #[cv p l st, .int .i64 n] w fun e w' => e = .returned (.int .u64 (peekL l n)) ∧ Below w.heap.size w w' := by
  obtain ⟨ao, cap⟩ := p
  rcases inL_cases l n with ⟨k, rfl, hk, hi⟩ | ⟨k0, hi⟩ | ⟨k0, k1, hi⟩
  · obtain ⟨x, hx⟩ : ∃ x, l[k]? = some x := ⟨l[k], List.getElem?_eq_getElem hk⟩
    obtain ⟨b, o, rfl, lb, hc⟩ := read_word h hx
    have Hx := Lib.hid (peekL_in hx)
    have lb' : ¬ w.heap.size = b := by omega
    clear h hx hi
    go_enter Tryz.func139, Tryz.ntmps139
    go_wp2
    go_ret
    exact ⟨ret_u Hx.out.symm, (Below.refl _ _).alloc (Nat.le_refl _) _⟩
  · have Hx := Lib.hid (peekL_out (l := l) (n := n) (by omega))
    clear h hi
    go_enter Tryz.func139, Tryz.ntmps139
    go_wp2
    go_ret
    exact ⟨ret_u Hx.out.symm, (Below.refl _ _).alloc (Nat.le_refl _) _⟩
  · have Hx := Lib.hid (peekL_out (l := l) (n := n) (by omega))
    clear h hi
    go_enter Tryz.func139, Tryz.ntmps139
    go_wp2
    go_ret
    exact ⟨ret_u Hx.out.symm, (Below.refl _ _).alloc (Nat.le_refl _) _⟩


set_option maxRecDepth 100000 in
set_option maxHeartbeats 1000000 in
theorem rload_any {p : Sl} {l : List Int} {st : Int} (n : Int) (w : World) (h : ReadAt w p.1 (wordsV l)) :
    Calls Tryz.prog 188 #[cv p l st, .int .i64 n] w fun e w' => e = .returned (.tuple #[cv p l (tick l n st), .int .u64 (peekL l n)]) ∧ Below w.heap.size w w' := by
  obtain ⟨ao, cap⟩ := p
  rcases inL_cases l n with ⟨k, rfl, hk, hi⟩ | ⟨k0, hi⟩ | ⟨k0, k1, hi⟩
  · obtain ⟨x, hx⟩ : ∃ x, l[k]? = some x := ⟨l[k], List.getElem?_eq_getElem hk⟩
    obtain ⟨b, o, rfl, lb, hc⟩ := read_word h hx
    have Hx := Lib.hid (peekL_in hx)
    have Ht := Lib.hid (show tick l (k : Int) st = wrap64 (st + 1) by unfold tick; rw [hi]; rfl)
    have lb' : ¬ w.heap.size = b := by omega
    have lb2 : ¬ w.heap.size + 1 = b := by omega
    clear h hx hi
    go_enter Tryz.func188, Tryz.ntmps188
    go_wp2_with fail
    go_region_held3 (fun w' => w'.cell? ⟨w.heap.size, 0, none⟩ = some (.slice (some ⟨b, o, none⟩) l.length cap) ∧ w'.cell? ⟨w.heap.size, 1, none⟩ = some (.int .i64 (wrap64 (st + 1))) ∧ w'.cell? ⟨b, o + k, none⟩ = some (.int .u64 x))
      (first | go_keep | (go_split_ands; refine ⟨?_, ?_, ?_⟩ <;> go_simp)) (fail)
    go_wp2
    exact bodyPost_ret (v := .tuple #[.agg #[.slice (some ⟨b, o, none⟩) l.length cap, .int .i64 (wrap64 (st + 1))], .int .u64 x]) (by simp [results, Tryz.results188, go_sem]) rfl ⟨by rw [Hx.out, Ht.out], by first | exact (below_twice _ _ _).drew | exact below_twice _ _ _⟩
  · have Hx := Lib.hid (peekL_out (l := l) (n := n) (by omega))
    have Ht := Lib.hid (show tick l n st = st by unfold tick; rw [hi]; rfl)
    clear h hi
    go_enter Tryz.func188, Tryz.ntmps188
    go_wp2
    exact bodyPost_ret (v := .tuple #[.agg #[.slice ao l.length cap, .int .i64 st], .int .u64 0]) (by simp [results, Tryz.results188, go_sem]) rfl ⟨by rw [Hx.out, Ht.out], below_twice _ _ _⟩
  · have Hx := Lib.hid (peekL_out (l := l) (n := n) (by omega))
    have Ht := Lib.hid (show tick l n st = st by unfold tick; rw [hi]; rfl)
    clear h hi
    go_enter Tryz.func188, Tryz.ntmps188
    go_wp2
    exact bodyPost_ret (v := .tuple #[.agg #[.slice ao l.length cap, .int .i64 st], .int .u64 0]) (by simp [results, Tryz.results188, go_sem]) rfl ⟨by rw [Hx.out, Ht.out], below_twice _ _ _⟩

theorem uinfo : (Tryz.prog.info? 26).map (fun i => (i.zero.map Value.cells, i.size, i.bytes)) = some (some #[.int .u64 0], 1, 8) := by kernel_rfl
theorem wordsV_len (l : List Int) : (wordsV l).length = l.length := by simp [wordsV]
theorem wordsV_one (l : List Int) : ∀ u ∈ wordsV l, u.oneCell' = true := by
  intro u hu
  obtain ⟨x, _, rfl⟩ := List.mem_map.1 hu
  rfl
theorem wordsV_set (l : List Int) (n : Nat) (x : Int) : (wordsV l).set n (.int .u64 x) = wordsV (l.set n x) := by simp [wordsV, List.map_set]
/-- What a row holds can be read. -/
theorem readAt_row {w : World} {base : Nat} {e : TypeId} {size g n cap : Nat} {xs : List Value} (h : w.ownsRow base e size (.slice (some ⟨g, 0, none⟩) n cap) n xs) : ReadAt w (some ⟨g, 0, none⟩) xs := by
  intro j u hu
  exact ⟨g, 0, rfl, by rw [Nat.zero_add]; exact row_cell h hu⟩
theorem cells_add {w : World} {b o : Nat} {xs : List Value} (h : ReadAt w (some ⟨b, o, none⟩) xs) : ∀ j u, xs[j]? = some u → w.cell? (Addr.add ⟨b, o, none⟩ j) = some u := by
  intro j u hu
  obtain ⟨b', o', h1, h2⟩ := h j u hu
  injection h1 with h1
  injection h1 with e1 e2
  subst e1; subst e2
  rw [Addr.add_lit]; exact h2
theorem read_some {w : World} {ao : Option Addr} {xs : List Value} (h : ReadAt w ao xs) (h0 : 0 < xs.length) : ∃ b o, ao = some ⟨b, o, none⟩ ∧ b < w.heap.size := by
  obtain ⟨b, o, h1, h2⟩ := h 0 _ (List.getElem?_eq_getElem h0)
  exact ⟨b, o, h1, World.block_lt_of_cell? w _ h2⟩

set_option maxRecDepth 100000 in
set_option maxHeartbeats 1000000 in
theorem rstore_any {p : Sl} {l : List Int} {st : Int} (n x : Int) (w : World) (h : ReadAt w p.1 (wordsV l)) (hl : l.length ≤ 1048576) :
    Calls Tryz.prog 140 #[cv p l st, .int .i64 n, .int .u64 x] w (CellsOut w p.1 (fun v => v) (storeL l n x) (tick l n st)) := by
  obtain ⟨ao, cap⟩ := p
  rcases inL_cases l n with ⟨k, rfl, hk, hi⟩ | ⟨k0, hi⟩ | ⟨k0, k1, hi⟩
  · obtain ⟨i0, z0, hi0, hz0, hz3, hz1, hz2⟩ := info_of uinfo
    obtain ⟨b, o, rfl, lb⟩ := read_some h (by rw [wordsV_len]; omega)
    have hB := (h.below (below_twice w (.cells #[.slice (some ⟨b, o, none⟩) l.length cap, .int .i64 st] 38) (.cells #[.slice none 0 0, .int .i64 0] 38)))
    have HB := Lib.hid (fun o3 => hB.below ((Below.refl _ ((w.alloc (.cells #[.slice (some ⟨b, o, none⟩) l.length cap, .int .i64 st] 38)).alloc (.cells #[.slice none 0 0, .int .i64 0] 38))).alloc (Nat.le_refl _) o3))
    have Ht := Lib.hid (show tick l (k : Int) st = wrap64 (st + 1) by unfold tick; rw [hi]; rfl)
    have Hs := Lib.hid (show storeL l (k : Int) x = l.set k x by unfold storeL; rw [hi]; rfl)
    clear h hi hB
    go_enter Tryz.func140, Tryz.ntmps140
    go_wp2_with (at_builtin; refine wpList_append_own _ rfl (.tmp 18) (.tmp 20) 36 rfl (w.heap.size + 1 + 1) 26 i0 z0 1 8 Tryz.underlying36 hi0 hz0 hz1 hz2 (by rw [hz3]; rfl) (by decide) (.slice (some ⟨w.heap.size + 1 + 1, 0, none⟩) 0 0) 0 [] rfl ?sa0 ⟨b, o, none⟩ l.length cap (wordsV l) rfl ?sa1 ?sa2 ?sa3 ?sa4 ?sa5 ?sa6 ?san)
    case sa0 =>
      have h0 := World.ownsRow_lit (base := w.heap.size + 1 + 1) (e := 26) (size := 1) ((w.alloc (.cells #[.slice (some ⟨b, o, none⟩) l.length cap, .int .i64 st] 38)).alloc (.cells #[.slice none 0 0, .int .i64 0] 38)) #[] 0 (by simp) (by unfold maxLen; omega) rfl
      simpa using h0
    case sa1 => rw [wordsV_len]
    case sa2 => intro j u hu; rw [← Addr.add_lit]; exact cells_add (HB.out _) j u hu
    case sa3 => exact wordsV_one l
    case sa4 => unfold maxLen; omega
    case sa5 => omega
    case san =>
      intro v' w' hR hg hne
      obtain ⟨g', cap', rfl, hg1, hg2⟩ := row_form hR hne
      replace hg : World.grownBy _ w' (some (w.heap.size + 1 + 1)) := hg
      have hs3 := hg.size
      simp at hs3
      have hB' : Below w.heap.size w w' := grown_below ((below_twice w _ _).alloc (by simp; omega) _) hg (by omega) (by simp; omega)
      have A0 : At w' w.heap.size 38 #[.slice (some ⟨b, o, none⟩) l.length cap, .int .i64 st] := (hg.block w.heap.size (by simp; omega) (by intro e; injection e with e; omega)).trans (((At.new w _ _).alloc _).alloc _)
      have A1 : At w' (w.heap.size + 1) 38 #[.slice none 0 0, .int .i64 0] := (hg.block (w.heap.size + 1) (by simp) (by intro e; injection e with e; omega)).trans ((At.new1 w _ _ _).alloc _)
      obtain ⟨y, hy⟩ : ∃ y, l[k]? = some y := ⟨_, List.getElem?_eq_getElem hk⟩
      have c0 := row_cell hR (j := k) (u := .int .u64 y) (by simp [wordsV, hy])
      have f0 := hR.frozenAt k
      have hst := hR.stored k (.int .u64 x)
      rw [wordsV_set] at hst
      have lg := row_lt hR
      have HST := Lib.hid (And.intro hst (grown_below hB' hst.2 (by omega) hB'.size))
      have b0 := A0.cell 1
      have b1 := A1.cell 0
      have b2 := A1.cell 1
      have b3 := A1.frozen 0
      have b4 := A1.frozen 1
      have n0 : ¬ g' = w.heap.size := by omega
      have n1 : ¬ g' = w.heap.size + 1 := by omega
      simp at b0 b1 b2
      clear hR hg hne hst hy A0 A1
      go_wp2_with fail
      have hO := fun u1 u2 => ((Only.refl (fun i => i = w.heap.size + 1) (w'.setCell ⟨g', k, none⟩ (.int .u64 x))).set (p := ⟨w.heap.size + 1, 0, none⟩) (.inl rfl) u1).set (p := ⟨w.heap.size + 1, 1, none⟩) (.inl rfl) u2
      exact bodyPost_ret (v := .agg #[.slice (some ⟨g', 0, none⟩) l.length cap', .int .i64 (wrap64 (st + 1))]) (by simp [results, Tryz.results140, go_sem, b1, b2]) rfl ⟨some ⟨g', 0, none⟩, cap', by rw [Hs.out, Ht.out]; simp only [cv, List.length_set], by rw [Hs.out]; exact readAt_row (ownsRow_only HST.out.1.1 (hO _ _) n1), HST.out.2.trans ((hO _ _).below (by have := HST.out.2.size; omega) fun i hi hn => by omega), .inr ⟨g', rfl, by omega⟩⟩
  · have Ht := Lib.hid (show tick l n st = st by unfold tick; rw [hi]; rfl)
    have Hs := Lib.hid (show storeL l n x = l by unfold storeL; rw [hi]; rfl)
    have HR := Lib.hid h
    clear h hi
    go_enter Tryz.func140, Tryz.ntmps140
    go_wp2
    exact bodyPost_ret (v := .agg #[.slice ao l.length cap, .int .i64 st]) (by simp [results, Tryz.results140, go_sem]) rfl ⟨ao, cap, by rw [Hs.out, Ht.out], by rw [Hs.out]; exact HR.out.below (below_twice _ _ _), below_twice _ _ _, .inl rfl⟩
  · have Ht := Lib.hid (show tick l n st = st by unfold tick; rw [hi]; rfl)
    have Hs := Lib.hid (show storeL l n x = l by unfold storeL; rw [hi]; rfl)
    have HR := Lib.hid h
    clear h hi
    go_enter Tryz.func140, Tryz.ntmps140
    go_wp2
    exact bodyPost_ret (v := .agg #[.slice ao l.length cap, .int .i64 st]) (by simp [results, Tryz.results140, go_sem]) rfl ⟨ao, cap, by rw [Hs.out, Ht.out], by rw [Hs.out]; exact HR.out.below (below_twice _ _ _), below_twice _ _ _, .inl rfl⟩

set_option maxRecDepth 100000 in
set_option maxHeartbeats 1000000 in
theorem rswap_any {p : Sl} {l : List Int} {st : Int} (n old x : Int) (w : World) (h : ReadAt w p.1 (wordsV l)) (hl : l.length ≤ 1048576) :
    Calls Tryz.prog 185 #[cv p l st, .int .i64 n, .int .u64 old, .int .u64 x] w (CellsOut w p.1 (fun v => .tuple #[v, .bool (swapB l n old)]) (swapL l n old x) (tick l n st)) := by
  obtain ⟨ao, cap⟩ := p
  rcases inL_cases l n with ⟨k, rfl, hk, hi⟩ | ⟨k0, hi⟩ | ⟨k0, k1, hi⟩
  · obtain ⟨y, hy⟩ : ∃ y, l[k]? = some y := ⟨l[k], List.getElem?_eq_getElem hk⟩
    obtain ⟨b, o, rfl, lb, hc⟩ := read_word h hy
    have Ht := Lib.hid (show tick l (k : Int) st = wrap64 (st + 1) by unfold tick; rw [hi]; rfl)
    have lb' : ¬ w.heap.size = b := by omega
    have lb2 : ¬ w.heap.size + 1 = b := by omega
    have HR := Lib.hid h
    by_cases he : y = old
    · have Hb := Lib.hid (show swapB l (k : Int) old = true by unfold swapB; rw [hi, peekL_in hy]; simpa using he)
      have Hs := Lib.hid (show swapL l (k : Int) old x = storeL l (k : Int) x by unfold swapL storeL; rw [Hb.out, hi])
      subst he
      clear h hi hy
      go_enter Tryz.func185, Tryz.ntmps185
      go_wp2_with (go_at_call 140; refine (rstore_any (p := (some ⟨b, o, none⟩, cap)) _ _ _ (HR.out.below (below_twice w _ _)) hl).mono ?_; rintro e w3 ⟨ao', cap', rfl, hr, hb3, hao⟩; have A1 := (At.new1 w (.cells #[.slice (some ⟨b, o, none⟩) l.length cap, .int .i64 st] 38) 38 #[.slice none 0 0, .int .i64 0]).below' hb3; have b1 := A1.cell 0; have b2 := A1.cell 1; have b3 := A1.frozen 0; have b4 := A1.frozen 1; simp at b1 b2)
      have hs3 := hb3.size
      simp at hs3
      have hB3 : Below w.heap.size w w3 := (below_twice w _ _).trans (hb3.mono (by simp; omega))
      have hO := fun u1 u2 => ((Only.refl (fun i => i = w.heap.size + 1) w3).set (p := ⟨w.heap.size + 1, 0, none⟩) (.inl rfl) u1).set (p := ⟨w.heap.size + 1, 1, none⟩) (.inl rfl) u2
      refine bodyPost_ret (v := .tuple #[.agg #[.slice ao' (storeL l (k : Int) x).length cap', .int .i64 (tick l (k : Int) st)], .bool true]) (by simp [results, Tryz.results185, go_sem, b1, b2]) rfl ⟨ao', cap', by rw [Hs.out, Hb.out], Hs.out.symm ▸ hr.only (hO _ _) ?_, hB3.trans ((hO _ _).below (by omega) fun i hi hn => by omega), ?_⟩
      · intro b' o' hb' _ e'
        rcases hao with rfl | ⟨g, rfl, hg⟩
        · injection hb' with hb'; injection hb' with h1 h2; omega
        · injection hb' with hb'; injection hb' with h1 h2; simp at hg; omega
      · rcases hao with rfl | ⟨g, rfl, hg⟩
        · exact .inl rfl
        · exact .inr ⟨g, rfl, by simp at hg; omega⟩
    · have Hb := Lib.hid (show swapB l (k : Int) old = false by unfold swapB; rw [hi, peekL_in hy]; simpa using he)
      have Hs := Lib.hid (show swapL l (k : Int) old x = l by unfold swapL; rw [Hb.out]; rfl)
      have he' : (y == old) = false := by simpa using he
      clear h hi hy he
      go_enter Tryz.func185, Tryz.ntmps185
      go_wp2
      exact bodyPost_ret (v := .tuple #[.agg #[.slice (some ⟨b, o, none⟩) l.length cap, .int .i64 (wrap64 (st + 1))], .bool false]) (by simp [results, Tryz.results185, go_sem]) rfl ⟨some ⟨b, o, none⟩, cap, by rw [Hs.out, Ht.out, Hb.out], by rw [Hs.out]; exact HR.out.below (below_twice _ _ _), below_twice _ _ _, .inl rfl⟩
  · have Ht := Lib.hid (show tick l n st = st by unfold tick; rw [hi]; rfl)
    have Hb := Lib.hid (show swapB l n old = false by unfold swapB; rw [hi]; rfl)
    have Hs := Lib.hid (show swapL l n old x = l by unfold swapL; rw [Hb.out]; rfl)
    have HR := Lib.hid h
    clear h hi
    go_enter Tryz.func185, Tryz.ntmps185
    go_wp2
    exact bodyPost_ret (v := .tuple #[.agg #[.slice ao l.length cap, .int .i64 st], .bool false]) (by simp [results, Tryz.results185, go_sem]) rfl ⟨ao, cap, by rw [Hs.out, Ht.out, Hb.out], by rw [Hs.out]; exact HR.out.below (below_twice _ _ _), below_twice _ _ _, .inl rfl⟩
  · have Ht := Lib.hid (show tick l n st = st by unfold tick; rw [hi]; rfl)
    have Hb := Lib.hid (show swapB l n old = false by unfold swapB; rw [hi]; rfl)
    have Hs := Lib.hid (show swapL l n old x = l by unfold swapL; rw [Hb.out]; rfl)
    have HR := Lib.hid h
    clear h hi
    go_enter Tryz.func185, Tryz.ntmps185
    go_wp2
    exact bodyPost_ret (v := .tuple #[.agg #[.slice ao l.length cap, .int .i64 st], .bool false]) (by simp [results, Tryz.results185, go_sem]) rfl ⟨ao, cap, by rw [Hs.out, Ht.out, Hb.out], by rw [Hs.out]; exact HR.out.below (below_twice _ _ _), below_twice _ _ _, .inl rfl⟩

set_option maxRecDepth 100000 in
set_option maxHeartbeats 1000000 in
theorem rcnew_any (m : Nat) (w : World) (hm : m ≤ 1048576) :
    Calls Tryz.prog 131 #[.int .i64 m] w (CellsOut w none (fun v => v) (List.replicate m 0) 0) := by
  obtain ⟨i, z, hi, hz, hc, hsz, hby⟩ := info_of uinfo
  have hrun := fun W => run_make (P := Tryz.prog) W 36 26 i z Tryz.underlying36 hi hz .i64 .i64 (m : Int) (m : Int) (by omega) (Int.le_refl _) (by rw [hby]; omega) (by omega)
  simp only [hc, hsz, Int.toNat_natCast, Nat.mul_one, made_words] at hrun
  clear hc hsz hby hz hi
  go_enter Tryz.func131, Tryz.ntmps131
  go_wp2
  have A1 := fun o => At.new1 w o 26 (wordsOf (List.replicate m 0))
  refine bodyPost_ret (v := .agg #[.slice (some ⟨w.heap.size + 1, 0, none⟩) m m, .int .i64 0]) (by simp [results, Tryz.results131, go_sem]) rfl ⟨some ⟨w.heap.size + 1, 0, none⟩, m, by simp [cv], ?_, ?_, .inr ⟨_, rfl, by omega⟩⟩
  · intro j u hu
    refine ⟨_, 0, rfl, ?_⟩
    rw [Nat.zero_add]
    exact ((A1 _).cell j).trans (by unfold wordsOf; rw [List.getElem?_toArray]; exact hu)
  · exact below_twice _ _ _

end Go.Proofs.YtccmjljlfgbicaaGreat
