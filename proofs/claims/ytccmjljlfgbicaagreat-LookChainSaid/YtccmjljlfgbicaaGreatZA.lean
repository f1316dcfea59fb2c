/- A scan, as far as it has come; lists of pairs in memory. Plain. -/
import Derived.Test.YtccmjljlfgbicaaGreatZV
import Derived.Test.YtccmjljlfgbicaaGreatBegin
import Derived.Test.YtccmjljlfgbicaaGreatLook
import Derived.Deep.Onto
import Derived.Test.YtccmjljlfgbicaaGreatSeq
import Derived.Test.YtccmjljlfgbicaaGreatLayA
import Derived.Test.YtccmjljlfgbicaaGreatWorld2
import Derived.Test.YtccmjljlfgbicaaGreatLaid
import Derived.Test.YtccmjljlfgbicaaGreatWalkE
import Derived.Test.YtccmjljlfgbicaaGreatZLkT
import Derived.Test.YtccmjljlfgbicaaGreatZS
namespace Go.Proofs.YtccmjljlfgbicaaGreat
open Go.ChangeShapes Go.WideShapes Go.ChangeAt Go.RowKit

structure Scn where
  call : GCall
  phase : Int
  bucket : Int
  node : Int
  next : Int
  lists : List (List (Int × Int))
  done : Bool
  err : Int
  rdone : Bool
  pairs : List (Int × Int)
abbrev Scn.cells (x : Scn) (lv pv : Value) : Array Value := #[.int .i64 x.call.kind, .int .u64 x.call.key, .int .u64 x.call.val, .int .i64 x.call.limit, .int .i64 x.phase, .int .i64 x.bucket, .int .i64 x.node, .int .u64 x.next, lv, .bool x.done, .int .i64 x.err, .bool x.rdone, .int .u64 0, pv]
abbrev Scn.val (x : Scn) (lv pv : Value) : Value := .agg (x.cells lv pv)
def Scn.wrong (e : Int) : Scn := ⟨GCall.none_, 0, 0, 0, 0, [], true, e, false, []⟩
def Scn.start (c : GCall) (b : Int) : Scn := ⟨c, 0, 0, 0, 0, List.replicate b.toNat [], decide (c.val < c.key ∨ c.limit < 1), 0, decide (c.val < c.key ∨ c.limit < 1), []⟩

/-- Lists of pairs, put together: here of one list. -/
def mrg (ls : List (List (Int × Int))) (limit : Int) : List (Int × Int) := (ls.headD []).take limit.toNat
/-- To come to a node. -/
def St.scnArrive (s : St) (x : Scn) (n : Int) : Scn :=
  if n ≠ 0 ∧ s.key n ≤ x.call.val then { x with node := n, phase := 1 }
  else if x.bucket + 1 = s.c.buckets then { x with node := n, bucket := x.bucket + 1, phase := 0, done := true, err := 0, rdone := true, pairs := mrg x.lists x.call.limit }
  else { x with node := n, bucket := x.bucket + 1, phase := 0 }
/-- Is a key not the last one of a list? -/
def freshP (l : List (Int × Int)) (k : Int) : Bool := match l.getLast? with | some p => p.1 != k | none => true
/-- To take a node's pair, by its operation's word. -/
def St.scnJudge (s : St) (x : Scn) (v : Int) : Scn :=
  match x.lists[x.bucket.toNat]? with
  | some l => if v = 1 ∧ x.call.key ≤ s.key x.node ∧ s.key x.node ≤ x.call.val ∧ freshP l (s.key x.node) = true then { x with lists := x.lists.set x.bucket.toNat (l ++ [(s.key x.node, (s.call (s.carried x.node)).val)]) } else x
  | none => x
/-- One step of a scan. -/
def St.scnStep (s : St) (x : Scn) : St × Scn :=
  if x.done then (s, x)
  else if x.phase = 0 then (s.load (s.nextAt (s.headAt x.bucket)), s.scnArrive x (s.peek (s.nextAt (s.headAt x.bucket)) / 2))
  else if x.phase = 1 then (s.load (s.nextAt x.node), { x with next := s.peek (s.nextAt x.node), phase := 2 })
  else if x.phase = 2 then (s.load (s.wordAt (s.carried x.node)), s.scnArrive (s.scnJudge x (s.peek (s.wordAt (s.carried x.node)))) (x.next / 2))
  else (s, { x with done := true })
/-- A scan that begins. -/
def St.scnNew (s : St) (thread : Int) (c : GCall) : St × Scn :=
  if c.kind = 4 then (if (s.begin thread c).2.2 = 0 then ((s.begin thread c).1, Scn.start c s.c.buckets) else ((s.begin thread c).1, Scn.wrong (s.begin thread c).2.2)) else (s, Scn.wrong 1)

/-- A list of pairs in memory, in blocks of a kind. -/
def PairsIn (w : World) (N : Nat → Prop) (v : Value) (l : List (Int × Int)) : Prop :=
  (l = [] ∧ ∃ ao cap, v = .slice ao 0 cap) ∨ ∃ b o cap, v = .slice (some ⟨b, o, none⟩) l.length cap ∧ l ≠ [] ∧ l.length ≤ cap ∧ N b ∧ ∀ j u, (pairsV l)[j]? = some u → w.cell? ⟨b, o + j, none⟩ = some u
/-- Lists of pairs in memory. -/
def ListsIn (w : World) (N : Nat → Prop) (v : Value) (ls : List (List (Int × Int))) : Prop :=
  (ls = [] ∧ v = .slice none 0 0) ∨ ∃ b o cap, v = .slice (some ⟨b, o, none⟩) ls.length cap ∧ ls ≠ [] ∧ ls.length ≤ cap ∧ N b ∧ ∀ i l, ls[i]? = some l → ∃ u, w.cell? ⟨b, o + i, none⟩ = some u ∧ PairsIn w N u l
/-- What a scan's words point to. -/
structure ScnIn (w : World) (N : Nat → Prop) (x : Scn) (lv pv : Value) : Prop where
  lists : ListsIn w N lv x.lists
  pairs : PairsIn w N pv x.pairs
section
variable {w w' : World} {N M : Nat → Prop} {v : Value} {l : List (Int × Int)} {ls : List (List (Int × Int))}
theorem PairsIn.go (h : PairsIn w N v l) (hM : ∀ b, N b → b < w.heap.size → M b) (hk : ∀ b, N b → b < w.heap.size → w'.heap[b]? = w.heap[b]?) : PairsIn w' M v l := by
  rcases h with h | ⟨b, o, cap, h1, h2, h3, h4, h5⟩
  · exact .inl h
  · have hlt : b < w.heap.size := by
      obtain ⟨p, t, rfl⟩ : ∃ p t, l = p :: t := by cases l with | nil => exact (h2 rfl).elim | cons p t => exact ⟨p, t, rfl⟩
      exact World.block_lt_of_cell? w _ (h5 0 _ rfl)
    exact .inr ⟨b, o, cap, h1, h2, h3, hM b h4 hlt, fun j u hu => by rw [World.cell?_of_block (hk b h4 hlt)]; exact h5 j u hu⟩
theorem ListsIn.go (h : ListsIn w N v ls) (hM : ∀ b, N b → b < w.heap.size → M b) (hk : ∀ b, N b → b < w.heap.size → w'.heap[b]? = w.heap[b]?) : ListsIn w' M v ls := by
  rcases h with h | ⟨b, o, cap, h1, h2, h3, h4, h5⟩
  · exact .inl h
  · have hlt : b < w.heap.size := by
      obtain ⟨p, t, rfl⟩ : ∃ p t, ls = p :: t := by cases ls with | nil => exact (h2 rfl).elim | cons p t => exact ⟨p, t, rfl⟩
      obtain ⟨u, hu, _⟩ := h5 0 p rfl
      exact World.block_lt_of_cell? w _ hu
    refine .inr ⟨b, o, cap, h1, h2, h3, hM b h4 hlt, fun i l hl => ?_⟩
    obtain ⟨u, hu, hp⟩ := h5 i l hl
    exact ⟨u, by rw [World.cell?_of_block (hk b h4 hlt)]; exact hu, hp.go hM hk⟩
theorem ScnIn.go {x : Scn} {lv pv : Value} (h : ScnIn w N x lv pv) (hM : ∀ b, N b → b < w.heap.size → M b) (hk : ∀ b, N b → b < w.heap.size → w'.heap[b]? = w.heap[b]?) : ScnIn w' M x lv pv := ⟨h.lists.go hM hk, h.pairs.go hM hk⟩
theorem PairsIn.below (h : PairsIn w N v l) (hb : Below w.heap.size w w') : PairsIn w' N v l := h.go (fun _ h _ => h) fun b _ hl => hb.block b hl
theorem ListsIn.below (h : ListsIn w N v ls) (hb : Below w.heap.size w w') : ListsIn w' N v ls := h.go (fun _ h _ => h) fun b _ hl => hb.block b hl
theorem ScnIn.below {x : Scn} {lv pv : Value} (h : ScnIn w N x lv pv) (hb : Below w.heap.size w w') : ScnIn w' N x lv pv := ⟨h.lists.below hb, h.pairs.below hb⟩
theorem PairsIn.only {S : Nat → Prop} (h : PairsIn w N v l) (ho : Only S w w') (hS : ∀ b, N b → ¬ S b) : PairsIn w' N v l := h.go (fun _ h _ => h) fun b hn hl => ho.block b hl (hS b hn)
theorem ListsIn.only {S : Nat → Prop} (h : ListsIn w N v ls) (ho : Only S w w') (hS : ∀ b, N b → ¬ S b) : ListsIn w' N v ls := h.go (fun _ h _ => h) fun b hn hl => ho.block b hl (hS b hn)
theorem ScnIn.only {S : Nat → Prop} {x : Scn} {lv pv : Value} (h : ScnIn w N x lv pv) (ho : Only S w w') (hS : ∀ b, N b → ¬ S b) : ScnIn w' N x lv pv := ⟨h.lists.only ho hS, h.pairs.only ho hS⟩
theorem PairsIn.form (h : PairsIn w N v l) : ∃ ao cap, v = .slice ao l.length cap := by
  rcases h with ⟨rfl, ao, cap, rfl⟩ | ⟨b, o, cap, rfl, _⟩
  · exact ⟨ao, cap, rfl⟩
  · exact ⟨_, cap, rfl⟩
theorem PairsIn.nil (w : World) (N : Nat → Prop) : PairsIn w N (.slice none 0 0) [] := .inl ⟨rfl, _, _, rfl⟩
theorem ListsIn.nil (w : World) (N : Nat → Prop) : ListsIn w N (.slice none 0 0) [] := .inl ⟨rfl, rfl⟩
theorem PairsIn.of_row {base n : Nat} {e : TypeId} (h : w.ownsRow base e 2 v n (pairsV l)) (hN : ∀ b, base ≤ b → N b) : PairsIn w N v l := by
  have hl : l.length = n := by have := h.1; rw [pairsV_len] at this; omega
  rcases h.2 with ⟨rfl, h2⟩ | ⟨g, cap, cur, rfl, h2, h3, h4, h5, h6, h7⟩
  · exact .inl ⟨List.length_eq_zero_iff.1 (by omega), _, _, rfl⟩
  · by_cases h0 : l = []
    · have e0 : n = 0 := by rw [← hl, h0]; rfl
      exact .inl ⟨h0, _, _, by rw [e0]⟩
    · refine .inr ⟨g, 0, cap, by rw [hl], h0, by omega, hN g h2, fun j u hu => ?_⟩
      have hA : At w g e cur := h3
      rw [Nat.zero_add, hA.cell, ← Array.getElem?_toList]
      rw [← h7, List.getElem?_take] at hu
      split at hu
      · exact hu
      · cases hu
end
end Go.Proofs.YtccmjljlfgbicaaGreat

/- A pair of a list in memory. Plain. -/
namespace Go.Proofs.YtccmjljlfgbicaaGreat
open Go.ChangeShapes Go.WideShapes Go.ChangeAt Go.RowKit

theorem PairsIn.at_ {w : World} {N : Nat → Prop} {ao : Option Addr} {n cap : Nat} {l : List (Int × Int)} {i : Nat} {p : Int × Int} (h : PairsIn w N (.slice ao n cap) l) (hi : l[i]? = some p) :
    ∃ b o, ao = some ⟨b, o, none⟩ ∧ N b ∧ w.cell? ⟨b, o + i * 2, none⟩ = some (.int .u64 p.1) ∧ w.cell? ⟨b, o + i * 2 + 1, none⟩ = some (.int .u64 p.2) := by
  rcases h with ⟨rfl, _⟩ | ⟨b, o, c, e, _, _, h4, h5⟩
  · cases hi
  · injection e with e1 e2 e3
    obtain ⟨g1, g2⟩ := pairsV_get hi
    exact ⟨b, o, e1, h4, h5 _ _ g1, by rw [Nat.add_assoc]; exact h5 _ _ g2⟩
end Go.Proofs.YtccmjljlfgbicaaGreat

/- A row of numbers in memory. Plain. -/
namespace Go.Proofs.YtccmjljlfgbicaaGreat
open Go.ChangeShapes Go.WideShapes Go.ChangeAt Go.RowKit

/-- A row of numbers in memory. -/
def RowAt (N : Nat → Prop) (ao : Option Addr) (l : List Int) (w : World) : Prop := ∀ (t : Nat) (n : Int), l[t]? = some n → ∃ gl, ao = some ⟨gl, 0, none⟩ ∧ N gl ∧ w.cell? ⟨gl, t, none⟩ = some (.int .i64 n)
theorem row_cells {w : World} {base : Nat} {v : Value} {l : List Int} {N : Nat → Prop} (h : w.ownsRow base 3 1 v l.length (l.map (.int .i64))) (hN : ∀ g, base ≤ g → N g) : ∃ ao cap, v = .slice ao l.length cap ∧ RowAt N ao l w := by
  rcases h.2 with ⟨rfl, h2⟩ | ⟨g, cap, cur, rfl, h2, h3, h4, h5, h6, h7⟩
  · have e : l = [] := List.length_eq_zero_iff.1 (by omega)
    subst e
    exact ⟨none, 0, rfl, fun t n ht => by cases ht⟩
  · have hA : At w g 3 cur := h3
    refine ⟨some ⟨g, 0, none⟩, cap, rfl, fun t n ht => ⟨g, rfl, hN g h2, ?_⟩⟩
    have hm : (l.map (Value.int .i64))[t]? = some (.int .i64 n) := by simp [ht]
    rw [hA.cell, ← Array.getElem?_toList]
    rw [← h7, List.getElem?_take] at hm
    split at hm
    · exact hm
    · cases hm

end Go.Proofs.YtccmjljlfgbicaaGreat

/- Contract of lay: the world of a scene. -/
namespace Go.Proofs.YtccmjljlfgbicaaGreat
open Go.ChangeShapes Go.WideShapes Go.ChangeAt Go.RowKit

set_option maxRecDepth 100000 in
set_option maxHeartbeats 4000000 in
theorem lay09_any {x : Scene} {v : Value} {ia ca : Option Addr} {ic cc : Nat} (w : World) (hx : x.fits) (hlen : x.items.length ≤ 12) (hcl : x.calls.length ≤ 6) (hS : SceneAt w v x ia ca ic cc) :
    Calls Tryz.prog 41 #[v] w fun e w' => ∃ k : Blks, e = .returned (.pointer (some ⟨k.bw, 0, none⟩)) ∧ Holds k x.lay w' ∧ (∀ i, (i = k.bw ∨ i = k.bb ∨ Own k i) → w.heap.size ≤ i) ∧ Below w.heap.size w w' := by
  obtain ⟨rfl, hI, hC⟩ := hS
  have HX := Lib.hid hx
  have HC := Lib.hid hC
  have HI := Lib.hid hI
  have HF := Lib.hid hx.fuel
  clear hx hC hI
  go_enter Tryz.func41, Tryz.ntmps41
  go_wp2_with (first
    | (go_at_call 55; refine (sconf_any _ HF.out).mono ?_; rintro e w1 ⟨rfl, hb1⟩)
    | (go_at_call 54; refine (wnew_yes x.conf w1 (conf_may HF.out)).mono ?_; rintro e w2 ⟨k, rfl, hH, hK, hb2⟩; obtain ⟨c0, c1, c2⟩ := scene_cells (hb1.trans (hb2.mono hb1.size)))
    | (go_at_call 56; refine (sorted_any w2 (HI.out.below (((Below.refl _ w).alloc (Nat.le_refl _) _).trans ((hb1.trans (hb2.mono hb1.size)).mono (by simp)))) hlen).mono ?_; rintro e w5 ⟨v5, rfl, hR5, hb5⟩; obtain ⟨ao, vc, rfl, hao⟩ := row_any hR5))
  have hB5 : Below w.heap.size w w5 := ((Below.refl _ w).alloc (Nat.le_refl _) _).trans ((hb1.trans ((hb2.mono hb1.size).trans (hb5.mono (by have := hb1.size; have := hb2.size; omega)))).mono (by simp))
  have hH5 := hH.below hb5
  have hsz : w.heap.size < w1.heap.size := by have := hb1.size; simp at this; omega
  have hK' : ∀ i, (i = k.bw ∨ i = k.bb ∨ Own k i) → w.heap.size < i := fun i hi => by have := hK i hi; omega
  have hao' : 0 < x.items.length → ∃ g, ao = some ⟨g, 0, none⟩ ∧ ¬ Own k g ∧ g < w5.heap.size := fun h0 => by
    obtain ⟨g, h1, h2, h3⟩ := hao h0
    exact ⟨g, h1, hH.fresh h2, h3⟩
  have hnw : ¬ Own k w.heap.size := fun e => by have := hK' _ (.inr (.inr e)); omega
  have HB5 := Lib.hid hB5
  have HK := Lib.hid hK'
  have HR5 := Lib.hid hR5
  have HAO := Lib.hid hao'
  have lw5 : w.heap.size < w5.heap.size := by have := hb2.size; have := hb5.size; omega
  obtain ⟨c0, c1, c2⟩ := scene_cells (hb1.trans ((hb2.mono hb1.size).trans (hb5.mono (by have := hb1.size; have := hb2.size; omega))))
  clear hB5 hK' hK hR5 hao hao' hb1 hb2 hb5 hH
  go_loopg [6, 7, 8] x.items.length (fun gg v6 v7 v8 wr => ∃ i : Nat, v8 = .int .i64 i ∧ i + gg = x.items.length ∧ ∃ s at_ op, (x.sorted.take i).foldl layItem (St.new x.conf, 1, 0) = (s, at_, op) ∧ v6 = .int .i64 at_ ∧ v7 = .int .i64 op ∧ Holds k s wr ∧ Only (Own k) w5 wr)
  case atStart => exact ⟨0, rfl, by omega, _, _, _, rfl, rfl, rfl, hH5, Only.refl _ _⟩
  case round =>
    obtain ⟨i, rfl, hi, s, at_, op, hs, rfl, rfl, hH, hO⟩ := hrel
    have d2 : wr.cell? ⟨w.heap.size, 2, none⟩ = some (.slice ca x.calls.length cc) := by rw [hO.cell lw5 hnw]; exact c2
    by_cases hlt : i < x.items.length
    · obtain ⟨it, hit⟩ : ∃ it, x.sorted[i]? = some it := ⟨_, List.getElem?_eq_getElem (by rw [sorted_len]; exact hlt)⟩
      obtain ⟨g, rfl, hgo, hgl⟩ := HAO.out (by omega)
      obtain ⟨n0, n1, n2, n3, n4⟩ := row_item HR5.out hO hgo hit
      have HIT := Lib.hid hit
      have HS := Lib.hid hs
      have HFT := Lib.hid (sorted_fits HX.out.items it (List.mem_of_getElem? hit))
      clear hit hs
      obtain ⟨_, g5, g6, gl⟩ := hH.wfacts
      cases hag : it.again with
      | true =>
        have HL := Lib.hid (show s.layOp op it = (s, op) by unfold St.layOp; rw [if_pos hag])
        rw [hag] at n4
        clear hag
        go_wp2_with (first
          | (go_at_call 58; refine (make_any 0 op _ hH).mono ?_; rintro e w6 ⟨rfl, hH6, hO6⟩; obtain ⟨_, f5, f6, fl⟩ := hH6.wfacts)
          | (go_at_call 45; refine (peek_any at_ _ hH6.cells).mono ?_; rintro e w7 ⟨rfl, rfl⟩)
          | (go_at_call 61; refine (rmarked_any _ _ (peek_range hH6.ok at_).1 (peek_range hH6.ok at_).2).mono ?_; rintro e w7 ⟨rfl, rfl⟩)
          | (go_at_call 60; refine (rpack_any _ _ _).mono ?_; rintro e w7 ⟨rfl, rfl⟩)
          | (go_at_call 59; refine (wset_any _ _ w6 hH6 (refOf_u64 _ _)).mono ?_; rintro e w8 ⟨rfl, hH8, hO8⟩; obtain ⟨m0, m1, m2, m3, m4⟩ := row_item HR5.out ((hO.trans hO6).trans hO8) hgo HIT.out)
          | (go_at_call 59; refine (wset_any _ _ w8 hH8 (refOf_u64 _ _)).mono ?_; rintro e w9 ⟨rfl, hH9, hO9⟩))
        go_roundg (x.items.length - (i + 1))
        case measure => omega
        case rel =>
          refine ⟨i + 1, rfl, by omega, _, _, _, (take_next HIT.out _).trans (congrArg (fun p => layItem p it) HS.out), ?_⟩
          simp only [HL.out]
          exact ⟨by first | rfl | trivial, by first | trivial | rfl, hH9, ((hO.trans hO6).trans hO8).trans hO9⟩
      | false =>
        have HL := Lib.hid (show s.layOp op it = ((s.begin 0 ⟨1, it.key, it.val, 0⟩).1.swap ((s.begin 0 ⟨1, it.key, it.val, 0⟩).1.wordAt (s.begin 0 ⟨1, it.key, it.val, 0⟩).2.1) 0 it.word, (s.begin 0 ⟨1, it.key, it.val, 0⟩).2.1) by unfold St.layOp; rw [if_neg (by rw [hag]; decide)])
        rw [hag] at n4
        clear hag
        have hcf : (⟨1, it.key, it.val, 0⟩ : GCall).fits := ⟨HFT.out.1.1, HFT.out.1.2, HFT.out.2.1.1, HFT.out.2.1.2⟩
        have HCF := Lib.hid hcf
        clear hcf
        have hgw : g < wr.heap.size := Nat.lt_of_lt_of_le hgl hO.size
        have hnb : ¬ Own k k.bw := hH.ne_w
        go_wp2_with fail
        go_region_held3 (fun w' => w'.cell? ⟨k.bw, 6, none⟩ = some (.pointer (some ⟨k.bb, 0, none⟩)) ∧ w'.cell? ⟨g, i * 5, none⟩ = some (.int .u64 it.key) ∧ w'.cell? ⟨g, i * 5 + 1, none⟩ = some (.int .u64 it.val))
          (first
            | go_keep
            | (refine ⟨?_, ?_, ?_⟩ <;> (rw [hOb.cell (by first | exact gl | exact hgw) (by first | exact hnb | exact hgo)]; assumption)))
          ((go_at_call 57; refine (begin_any 0 ⟨1, it.key, it.val, 0⟩ _ hH.drew HCF.out).mono ?_; rintro e wb ⟨rfl, hHb, hOb⟩))
        obtain ⟨_, b5, b6, bl⟩ := hHb.wfacts
        obtain ⟨p0, p1, p2, p3, p4⟩ := row_item HR5.out (hO.drew.trans hOb) hgo HIT.out
        go_wp2_with (first
          | (go_at_call 47; refine (wturn_any _ _ _ _ hHb HFT.out.2.2).mono ?_; rintro e wt ⟨rfl, hHt, hOt0⟩; have hOt := (hO.drew.trans hOb).trans hOt0; obtain ⟨_, t5, t6, tl⟩ := hHt.wfacts)
          | (go_at_call 58; refine (make_any 0 (s.begin 0 ⟨1, it.key, it.val, 0⟩).2.1 _ hHt).mono ?_; rintro e w6 ⟨rfl, hH6, hO6⟩; obtain ⟨_, f5, f6, fl⟩ := hH6.wfacts)
          | (go_at_call 45; refine (peek_any at_ _ hH6.cells).mono ?_; rintro e w7 ⟨rfl, rfl⟩)
          | (go_at_call 61; refine (rmarked_any _ _ (peek_range hH6.ok at_).1 (peek_range hH6.ok at_).2).mono ?_; rintro e w7 ⟨rfl, rfl⟩)
          | (go_at_call 60; refine (rpack_any _ _ _).mono ?_; rintro e w7 ⟨rfl, rfl⟩)
          | (go_at_call 59; refine (wset_any _ _ w6 hH6 (refOf_u64 _ _)).mono ?_; rintro e w8 ⟨rfl, hH8, hO8⟩; obtain ⟨m0, m1, m2, m3, m4⟩ := row_item HR5.out ((hOt.trans hO6).trans hO8) hgo HIT.out)
          | (go_at_call 59; refine (wset_any _ _ w8 hH8 (refOf_u64 _ _)).mono ?_; rintro e w9 ⟨rfl, hH9, hO9⟩))
        go_roundg (x.items.length - (i + 1))
        case measure => omega
        case rel =>
          refine ⟨i + 1, rfl, by omega, _, _, _, (take_next HIT.out _).trans (congrArg (fun p => layItem p it) HS.out), ?_⟩
          simp only [HL.out]
          exact ⟨by first | rfl | trivial, by first | trivial | rfl, hH9, ((hOt.trans hO6).trans hO8).trans hO9⟩
    · have e : i = x.items.length := by omega
      rw [e, ← sorted_len, List.take_length] at hs
      have HS := Lib.hid (show (St.new x.conf).layItems x.sorted = (s, at_, op) from hs)
      clear hs e
      have HOs := Lib.hid hO
      have HHs := Lib.hid hH
      have HL := Lib.hid (show x.lay = s.layCalls x.calls by unfold Scene.lay; rw [HS.out])
      clear hO hH
      go_wp2_with fail
      go_loopg [14] x.calls.length (fun gg v14 wc => ∃ j : Nat, v14 = .int .i64 j ∧ j + gg = x.calls.length ∧ Holds k (s.layCalls (x.calls.take j)) wc ∧ Only (Own k) w5 wc)
      case atStart => exact ⟨0, rfl, by omega, HHs.out, HOs.out⟩
      case round =>
        obtain ⟨j, rfl, hj, hH, hO⟩ := hrel
        have d2 : wr.cell? ⟨w.heap.size, 2, none⟩ = some (.slice ca x.calls.length cc) := by rw [hO.cell lw5 hnw]; exact c2
        have lwr : w.heap.size < wr.heap.size := Nat.lt_of_lt_of_le lw5 hO.size
        by_cases hlt : j < x.calls.length
        · obtain ⟨it, hit⟩ : ∃ it, x.calls[j]? = some it := ⟨_, List.getElem?_eq_getElem hlt⟩
          have hBr : Below w.heap.size w wr := HB5.out.trans (hO.below (by omega) fun i hi hn => by have := HK.out i (.inr (.inr hn)); omega)
          obtain ⟨b, o, rfl, lb, n0, n1, n2, n3⟩ := call_read (HC.out.below hBr) hit
          have hbo : ¬ Own k b := fun e => by
            have := HK.out b (.inr (.inr e))
            obtain ⟨b', o', he, hlt', _⟩ := call_read HC.out hit
            injection he with he; injection he with he1 he2; omega
          have HIT := Lib.hid hit
          have HFT := Lib.hid (HX.out.calls it (List.mem_of_getElem? hit))
          clear hit
          obtain ⟨_, g5, g6, gl⟩ := hH.wfacts
          have hnb : ¬ Own k k.bw := hH.ne_w
          go_wp2_with fail
          go_region_held3 (fun w' => w'.cell? ⟨k.bw, 6, none⟩ = some (.pointer (some ⟨k.bb, 0, none⟩)) ∧ w'.cell? ⟨w.heap.size, 2, none⟩ = some (.slice (some ⟨b, o, none⟩) x.calls.length cc) ∧ w'.cell? ⟨b, o + j * 4, none⟩ = some (.int .i64 it.kind) ∧ w'.cell? ⟨b, o + j * 4 + 1, none⟩ = some (.int .u64 it.key) ∧ w'.cell? ⟨b, o + j * 4 + 2, none⟩ = some (.int .u64 it.val) ∧ w'.cell? ⟨b, o + j * 4 + 3, none⟩ = some (.int .i64 it.limit))
            (first
              | go_keep
              | (refine ⟨?_, ?_, ?_, ?_, ?_, ?_⟩ <;> (rw [hOb.cell (by first | exact gl | exact lwr | exact lb) (by first | exact hnb | exact hnw | exact hbo)]; assumption)))
            ((go_at_call 57; refine (begin_any 2 it _ hH.drew HFT.out).mono ?_; rintro e wb ⟨rfl, hHb, hOb⟩))
          go_wp2_with fail
          go_roundg (x.calls.length - (j + 1))
          case measure => omega
          case rel =>
            refine ⟨j + 1, rfl, by omega, ?_, hO.drew.trans hOb⟩
            rw [calls_next HIT.out]
            exact hHb
        · have e : j = x.calls.length := by omega
          rw [e, List.take_length] at hH
          have HH := Lib.hid hH
          clear hH e
          go_wp2_with fail
          go_ret
          refine ⟨k, rfl, by rw [HL.out]; exact HH.out, fun i hi => Nat.le_of_lt (HK.out i hi), HB5.out.trans (hO.below (by omega) fun i hi hn => by have := HK.out i (.inr (.inr hn)); omega)⟩

end Go.Proofs.YtccmjljlfgbicaaGreat

/- The scene that is awake (chapter 10): pure. -/
namespace Go.Proofs.YtccmjljlfgbicaaGreat
open Go.ChangeShapes Go.WideShapes Go.ChangeAt Go.RowKit

/-- Steps of a walk that nobody disturbs. -/
def walkIter : Nat → St × Walk → St × Walk
  | 0, p => p
  | n + 1, p => (walkIter n p).1.walkStep (walkIter n p).2
theorem walkIter_zero (p : St × Walk) : walkIter 0 p = p := rfl
theorem walkIter_next {n : Nat} {p : St × Walk} {s : St} {x : Walk} (h : walkIter n p = (s, x)) : walkIter (n + 1) p = ((s.walkStep x).1, (s.walkStep x).2) := by rw [walkIter, h]
def awScene : Scene := ⟨0, [⟨1, 0, 2, false, false⟩, ⟨3, 0, 0, false, false⟩], []⟩
def awStart : St × Walk := (awScene.lay, Walk.new 3 1)
/-- As walkIter, from the front. -/
def walkRun : Nat → St × Walk → St × Walk
  | 0, p => p
  | n + 1, p => walkRun n (p.1.walkStep p.2)
theorem walkRun_iter (n : Nat) : ∀ p, walkRun n p = walkIter n p := by
  have h : ∀ n p, walkIter n (p.1.walkStep p.2) = walkIter (n + 1) p := by
    intro n
    induction n with
    | zero => intro p; rfl
    | succ n ih => intro p; rw [walkIter, ih]; rfl
  induction n with
  | zero => intro p; rfl
  | succ n ih => intro p; rw [walkRun, ih, h]
set_option maxRecDepth 100000 in
theorem aw_pure' : (walkRun 20 awStart).2.done = true ∧ (walkRun 20 awStart).2.stop = false ∧ (walkRun 20 awStart).2.curr = 0 ∧ (walkRun 20 awStart).2.seen = 1 ∧
    (walkRun 20 awStart).1.peek ((walkRun 20 awStart).1.wordAt 1) = 1 ∧ (((walkRun 20 awStart).1.load ((walkRun 20 awStart).1.wordAt 1)).chain 0).length = 1 ∧ ((walkRun 20 awStart).1.load ((walkRun 20 awStart).1.wordAt 1)).steps = 17 := by decide +kernel

end Go.Proofs.YtccmjljlfgbicaaGreat

/- Contract of lay: the world of a scene. -/
namespace Go.Proofs.YtccmjljlfgbicaaGreat
open Go.ChangeShapes Go.WideShapes Go.ChangeAt Go.RowKit

set_option maxRecDepth 100000 in
set_option maxHeartbeats 4000000 in
theorem lay10_any {x : Scene} {v : Value} {ia ca : Option Addr} {ic cc : Nat} (w : World) (hx : x.fits) (hlen : x.items.length ≤ 12) (hcl : x.calls.length ≤ 6) (hS : SceneAt w v x ia ca ic cc) :
    Calls Tryz.prog 26 #[v] w fun e w' => ∃ k : Blks, e = .returned (.pointer (some ⟨k.bw, 0, none⟩)) ∧ Holds k x.lay w' ∧ (∀ i, (i = k.bw ∨ i = k.bb ∨ Own k i) → w.heap.size ≤ i) ∧ Below w.heap.size w w' := by
  obtain ⟨rfl, hI, hC⟩ := hS
  have HX := Lib.hid hx
  have HC := Lib.hid hC
  have HI := Lib.hid hI
  have HF := Lib.hid hx.fuel
  clear hx hC hI
  go_enter Tryz.func26, Tryz.ntmps26
  go_wp2_with (first
    | (go_at_call 55; refine (sconf_any _ HF.out).mono ?_; rintro e w1 ⟨rfl, hb1⟩)
    | (go_at_call 54; refine (wnew_yes x.conf w1 (conf_may HF.out)).mono ?_; rintro e w2 ⟨k, rfl, hH, hK, hb2⟩; obtain ⟨c0, c1, c2⟩ := scene_cells (hb1.trans (hb2.mono hb1.size)))
    | (go_at_call 56; refine (sorted_any w2 (HI.out.below (((Below.refl _ w).alloc (Nat.le_refl _) _).trans ((hb1.trans (hb2.mono hb1.size)).mono (by simp)))) hlen).mono ?_; rintro e w5 ⟨v5, rfl, hR5, hb5⟩; obtain ⟨ao, vc, rfl, hao⟩ := row_any hR5))
  have hB5 : Below w.heap.size w w5 := ((Below.refl _ w).alloc (Nat.le_refl _) _).trans ((hb1.trans ((hb2.mono hb1.size).trans (hb5.mono (by have := hb1.size; have := hb2.size; omega)))).mono (by simp))
  have hH5 := hH.below hb5
  have hsz : w.heap.size < w1.heap.size := by have := hb1.size; simp at this; omega
  have hK' : ∀ i, (i = k.bw ∨ i = k.bb ∨ Own k i) → w.heap.size < i := fun i hi => by have := hK i hi; omega
  have hao' : 0 < x.items.length → ∃ g, ao = some ⟨g, 0, none⟩ ∧ ¬ Own k g ∧ g < w5.heap.size := fun h0 => by
    obtain ⟨g, h1, h2, h3⟩ := hao h0
    exact ⟨g, h1, hH.fresh h2, h3⟩
  have hnw : ¬ Own k w.heap.size := fun e => by have := hK' _ (.inr (.inr e)); omega
  have HB5 := Lib.hid hB5
  have HK := Lib.hid hK'
  have HR5 := Lib.hid hR5
  have HAO := Lib.hid hao'
  have lw5 : w.heap.size < w5.heap.size := by have := hb2.size; have := hb5.size; omega
  obtain ⟨c0, c1, c2⟩ := scene_cells (hb1.trans ((hb2.mono hb1.size).trans (hb5.mono (by have := hb1.size; have := hb2.size; omega))))
  clear hB5 hK' hK hR5 hao hao' hb1 hb2 hb5 hH
  go_loopg [6, 7, 8] x.items.length (fun gg v6 v7 v8 wr => ∃ i : Nat, v8 = .int .i64 i ∧ i + gg = x.items.length ∧ ∃ s at_ op, (x.sorted.take i).foldl layItem (St.new x.conf, 1, 0) = (s, at_, op) ∧ v6 = .int .i64 at_ ∧ v7 = .int .i64 op ∧ Holds k s wr ∧ Only (Own k) w5 wr)
  case atStart => exact ⟨0, rfl, by omega, _, _, _, rfl, rfl, rfl, hH5, Only.refl _ _⟩
  case round =>
    obtain ⟨i, rfl, hi, s, at_, op, hs, rfl, rfl, hH, hO⟩ := hrel
    have d2 : wr.cell? ⟨w.heap.size, 2, none⟩ = some (.slice ca x.calls.length cc) := by rw [hO.cell lw5 hnw]; exact c2
    by_cases hlt : i < x.items.length
    · obtain ⟨it, hit⟩ : ∃ it, x.sorted[i]? = some it := ⟨_, List.getElem?_eq_getElem (by rw [sorted_len]; exact hlt)⟩
      obtain ⟨g, rfl, hgo, hgl⟩ := HAO.out (by omega)
      obtain ⟨n0, n1, n2, n3, n4⟩ := row_item HR5.out hO hgo hit
      have HIT := Lib.hid hit
      have HS := Lib.hid hs
      have HFT := Lib.hid (sorted_fits HX.out.items it (List.mem_of_getElem? hit))
      clear hit hs
      obtain ⟨_, g5, g6, gl⟩ := hH.wfacts
      cases hag : it.again with
      | true =>
        have HL := Lib.hid (show s.layOp op it = (s, op) by unfold St.layOp; rw [if_pos hag])
        rw [hag] at n4
        clear hag
        go_wp2_with (first
          | (go_at_call 58; refine (make_any 0 op _ hH).mono ?_; rintro e w6 ⟨rfl, hH6, hO6⟩; obtain ⟨_, f5, f6, fl⟩ := hH6.wfacts)
          | (go_at_call 45; refine (peek_any at_ _ hH6.cells).mono ?_; rintro e w7 ⟨rfl, rfl⟩)
          | (go_at_call 61; refine (rmarked_any _ _ (peek_range hH6.ok at_).1 (peek_range hH6.ok at_).2).mono ?_; rintro e w7 ⟨rfl, rfl⟩)
          | (go_at_call 60; refine (rpack_any _ _ _).mono ?_; rintro e w7 ⟨rfl, rfl⟩)
          | (go_at_call 59; refine (wset_any _ _ w6 hH6 (refOf_u64 _ _)).mono ?_; rintro e w8 ⟨rfl, hH8, hO8⟩; obtain ⟨m0, m1, m2, m3, m4⟩ := row_item HR5.out ((hO.trans hO6).trans hO8) hgo HIT.out)
          | (go_at_call 59; refine (wset_any _ _ w8 hH8 (refOf_u64 _ _)).mono ?_; rintro e w9 ⟨rfl, hH9, hO9⟩))
        go_roundg (x.items.length - (i + 1))
        case measure => omega
        case rel =>
          refine ⟨i + 1, rfl, by omega, _, _, _, (take_next HIT.out _).trans (congrArg (fun p => layItem p it) HS.out), ?_⟩
          simp only [HL.out]
          exact ⟨by first | rfl | trivial, by first | trivial | rfl, hH9, ((hO.trans hO6).trans hO8).trans hO9⟩
      | false =>
        have HL := Lib.hid (show s.layOp op it = ((s.begin 0 ⟨1, it.key, it.val, 0⟩).1.swap ((s.begin 0 ⟨1, it.key, it.val, 0⟩).1.wordAt (s.begin 0 ⟨1, it.key, it.val, 0⟩).2.1) 0 it.word, (s.begin 0 ⟨1, it.key, it.val, 0⟩).2.1) by unfold St.layOp; rw [if_neg (by rw [hag]; decide)])
        rw [hag] at n4
        clear hag
        have hcf : (⟨1, it.key, it.val, 0⟩ : GCall).fits := ⟨HFT.out.1.1, HFT.out.1.2, HFT.out.2.1.1, HFT.out.2.1.2⟩
        have HCF := Lib.hid hcf
        clear hcf
        have hgw : g < wr.heap.size := Nat.lt_of_lt_of_le hgl hO.size
        have hnb : ¬ Own k k.bw := hH.ne_w
        go_wp2_with fail
        go_region_held3 (fun w' => w'.cell? ⟨k.bw, 6, none⟩ = some (.pointer (some ⟨k.bb, 0, none⟩)) ∧ w'.cell? ⟨g, i * 5, none⟩ = some (.int .u64 it.key) ∧ w'.cell? ⟨g, i * 5 + 1, none⟩ = some (.int .u64 it.val))
          (first
            | go_keep
            | (refine ⟨?_, ?_, ?_⟩ <;> (rw [hOb.cell (by first | exact gl | exact hgw) (by first | exact hnb | exact hgo)]; assumption)))
          ((go_at_call 57; refine (begin_any 0 ⟨1, it.key, it.val, 0⟩ _ hH.drew HCF.out).mono ?_; rintro e wb ⟨rfl, hHb, hOb⟩))
        obtain ⟨_, b5, b6, bl⟩ := hHb.wfacts
        obtain ⟨p0, p1, p2, p3, p4⟩ := row_item HR5.out (hO.drew.trans hOb) hgo HIT.out
        go_wp2_with (first
          | (go_at_call 47; refine (wturn_any _ _ _ _ hHb HFT.out.2.2).mono ?_; rintro e wt ⟨rfl, hHt, hOt0⟩; have hOt := (hO.drew.trans hOb).trans hOt0; obtain ⟨_, t5, t6, tl⟩ := hHt.wfacts)
          | (go_at_call 58; refine (make_any 0 (s.begin 0 ⟨1, it.key, it.val, 0⟩).2.1 _ hHt).mono ?_; rintro e w6 ⟨rfl, hH6, hO6⟩; obtain ⟨_, f5, f6, fl⟩ := hH6.wfacts)
          | (go_at_call 45; refine (peek_any at_ _ hH6.cells).mono ?_; rintro e w7 ⟨rfl, rfl⟩)
          | (go_at_call 61; refine (rmarked_any _ _ (peek_range hH6.ok at_).1 (peek_range hH6.ok at_).2).mono ?_; rintro e w7 ⟨rfl, rfl⟩)
          | (go_at_call 60; refine (rpack_any _ _ _).mono ?_; rintro e w7 ⟨rfl, rfl⟩)
          | (go_at_call 59; refine (wset_any _ _ w6 hH6 (refOf_u64 _ _)).mono ?_; rintro e w8 ⟨rfl, hH8, hO8⟩; obtain ⟨m0, m1, m2, m3, m4⟩ := row_item HR5.out ((hOt.trans hO6).trans hO8) hgo HIT.out)
          | (go_at_call 59; refine (wset_any _ _ w8 hH8 (refOf_u64 _ _)).mono ?_; rintro e w9 ⟨rfl, hH9, hO9⟩))
        go_roundg (x.items.length - (i + 1))
        case measure => omega
        case rel =>
          refine ⟨i + 1, rfl, by omega, _, _, _, (take_next HIT.out _).trans (congrArg (fun p => layItem p it) HS.out), ?_⟩
          simp only [HL.out]
          exact ⟨by first | rfl | trivial, by first | trivial | rfl, hH9, ((hOt.trans hO6).trans hO8).trans hO9⟩
    · have e : i = x.items.length := by omega
      rw [e, ← sorted_len, List.take_length] at hs
      have HS := Lib.hid (show (St.new x.conf).layItems x.sorted = (s, at_, op) from hs)
      clear hs e
      have HOs := Lib.hid hO
      have HHs := Lib.hid hH
      have HL := Lib.hid (show x.lay = s.layCalls x.calls by unfold Scene.lay; rw [HS.out])
      clear hO hH
      go_wp2_with fail
      go_loopg [14] x.calls.length (fun gg v14 wc => ∃ j : Nat, v14 = .int .i64 j ∧ j + gg = x.calls.length ∧ Holds k (s.layCalls (x.calls.take j)) wc ∧ Only (Own k) w5 wc)
      case atStart => exact ⟨0, rfl, by omega, HHs.out, HOs.out⟩
      case round =>
        obtain ⟨j, rfl, hj, hH, hO⟩ := hrel
        have d2 : wr.cell? ⟨w.heap.size, 2, none⟩ = some (.slice ca x.calls.length cc) := by rw [hO.cell lw5 hnw]; exact c2
        have lwr : w.heap.size < wr.heap.size := Nat.lt_of_lt_of_le lw5 hO.size
        by_cases hlt : j < x.calls.length
        · obtain ⟨it, hit⟩ : ∃ it, x.calls[j]? = some it := ⟨_, List.getElem?_eq_getElem hlt⟩
          have hBr : Below w.heap.size w wr := HB5.out.trans (hO.below (by omega) fun i hi hn => by have := HK.out i (.inr (.inr hn)); omega)
          obtain ⟨b, o, rfl, lb, n0, n1, n2, n3⟩ := call_read (HC.out.below hBr) hit
          have hbo : ¬ Own k b := fun e => by
            have := HK.out b (.inr (.inr e))
            obtain ⟨b', o', he, hlt', _⟩ := call_read HC.out hit
            injection he with he; injection he with he1 he2; omega
          have HIT := Lib.hid hit
          have HFT := Lib.hid (HX.out.calls it (List.mem_of_getElem? hit))
          clear hit
          obtain ⟨_, g5, g6, gl⟩ := hH.wfacts
          have hnb : ¬ Own k k.bw := hH.ne_w
          go_wp2_with fail
          go_region_held3 (fun w' => w'.cell? ⟨k.bw, 6, none⟩ = some (.pointer (some ⟨k.bb, 0, none⟩)) ∧ w'.cell? ⟨w.heap.size, 2, none⟩ = some (.slice (some ⟨b, o, none⟩) x.calls.length cc) ∧ w'.cell? ⟨b, o + j * 4, none⟩ = some (.int .i64 it.kind) ∧ w'.cell? ⟨b, o + j * 4 + 1, none⟩ = some (.int .u64 it.key) ∧ w'.cell? ⟨b, o + j * 4 + 2, none⟩ = some (.int .u64 it.val) ∧ w'.cell? ⟨b, o + j * 4 + 3, none⟩ = some (.int .i64 it.limit))
            (first
              | go_keep
              | (refine ⟨?_, ?_, ?_, ?_, ?_, ?_⟩ <;> (rw [hOb.cell (by first | exact gl | exact lwr | exact lb) (by first | exact hnb | exact hnw | exact hbo)]; assumption)))
            ((go_at_call 57; refine (begin_any 2 it _ hH.drew HFT.out).mono ?_; rintro e wb ⟨rfl, hHb, hOb⟩))
          go_wp2_with fail
          go_roundg (x.calls.length - (j + 1))
          case measure => omega
          case rel =>
            refine ⟨j + 1, rfl, by omega, ?_, hO.drew.trans hOb⟩
            rw [calls_next HIT.out]
            exact hHb
        · have e : j = x.calls.length := by omega
          rw [e, List.take_length] at hH
          have HH := Lib.hid hH
          clear hH e
          go_wp2_with fail
          go_ret
          refine ⟨k, rfl, by rw [HL.out]; exact HH.out, fun i hi => Nat.le_of_lt (HK.out i hi), HB5.out.trans (hO.below (by omega) fun i hi hn => by have := HK.out i (.inr (.inr hn)); omega)⟩

end Go.Proofs.YtccmjljlfgbicaaGreat

/- Contract of awake (chapter 10). -/
namespace Go.Proofs.YtccmjljlfgbicaaGreat
open Go.ChangeShapes Go.WideShapes Go.ChangeAt Go.RowKit

/-- A scene whose items were built in place. -/
theorem sceneAt_built (w : World) (f : Int) (l : List GItem) (e : TypeId) : SceneAt (w.alloc (.cells (itemsV l).toArray e)) (.agg #[.int .u8 f, .slice (some ⟨w.heap.size, 0, none⟩) l.length l.length, .slice none 0 0]) ⟨f, l, []⟩ (some ⟨w.heap.size, 0, none⟩) none l.length 0 := by
  refine ⟨rfl, ?_, ?_⟩
  · intro j u hu
    refine ⟨w.heap.size, 0, rfl, ?_⟩
    have h := At.cell (At.new w e (itemsV l).toArray) (0 + j)
    rw [h]
    simpa using hu
  · intro j u hu
    simp [callsV] at hu

theorem aw_fits : awScene.fits := by
  refine ⟨by decide, ?_, ?_⟩
  · intro i hi
    simp only [awScene, List.mem_cons, List.not_mem_nil, or_false] at hi
    rcases hi with rfl | rfl
    · unfold GItem.fits; decide
    · unfold GItem.fits; decide
  · intro c hc; cases hc

/-- A walk that is laid into a block. -/
abbrev putWalk (W : World) (b : Nat) (y : Walk) : World :=
  (((((((((W.setCell ⟨b, 0, none⟩ (.int .u64 y.key)).setCell ⟨b, 1, none⟩ (.int .i64 y.mode)).setCell ⟨b, 2, none⟩ (.int .i64 y.phase)).setCell ⟨b, 3, none⟩ (.int .i64 y.pred)).setCell ⟨b, 4, none⟩ (.int .i64 y.curr)).setCell ⟨b, 5, none⟩ (.int .u64 y.next)).setCell ⟨b, 6, none⟩ (.int .i64 y.seen)).setCell ⟨b, 7, none⟩ (.int .i64 y.found)).setCell ⟨b, 8, none⟩ (.bool y.stop)).setCell ⟨b, 9, none⟩ (.bool y.done)
theorem put_walk {k : Blks} {s : St} {W : World} {b : Nat} {x : Walk} (h : Holds k s W) (hb : Out k b) (hA : At W b 74 x.cells) (y : Walk) : Holds k s (putWalk W b y) ∧ At (putWalk W b y) b 74 y.cells ∧ Only (OwnX k b) W (putWalk W b y) := by
  refine ⟨?_, ?_, ?_⟩
  · repeat (refine Holds.far ?_ hb _ _)
    exact h
  · have h10 := (((((((((hA.set 0 (.int .u64 y.key)).set 1 (.int .i64 y.mode)).set 2 (.int .i64 y.phase)).set 3 (.int .i64 y.pred)).set 4 (.int .i64 y.curr)).set 5 (.int .u64 y.next)).set 6 (.int .i64 y.seen)).set 7 (.int .i64 y.found)).set 8 (.bool y.stop)).set 9 (.bool y.done)
    simp only [List.setIfInBounds_toArray, List.set_cons_zero, List.set_cons_succ] at h10
    exact h10
  · repeat (refine Only.set ?_ (.inl (.inr rfl)) _)
    exact Only.refl _ _

set_option maxRecDepth 100000 in
set_option maxHeartbeats 1000000 in
theorem awake10_any (w : World) : Calls Tryz.prog 25 #[] w fun e w' => e = .returned (.bool true) ∧ Below w.heap.size w w' := by
  go_enter Tryz.func25, Tryz.ntmps25
  go_wp2_with (first
    | (go_at_call 26; refine (lay10_any _ aw_fits (by decide) (by decide) (sceneAt_built w 0 awScene.items 107)).mono ?_; rintro e w1 ⟨k, rfl, hH, hK, hb1⟩)
    | (go_at_call 27; refine (walknew_any 3 1 _).mono ?_; rintro e w2 ⟨rfl, hb2⟩))
  have H2 := hH.below hb2
  have hsz := hb2.size
  have hs1 := hb1.size
  have hO2 : Out k w2.heap.size := H2.out (Nat.le_refl _)
  have hB2 : Below w.heap.size w w2 := ((Below.refl _ w).alloc (Nat.le_refl _) _).trans ((hb1.trans (hb2.mono hs1)).mono (by simp))
  have hK' : ∀ i, i < w.heap.size → ¬ OwnX k w2.heap.size i := by
    intro i hi hn
    simp at hs1
    rcases hn with hn | hn
    · have := hK i (.inr (.inr hn)); simp at this; omega
    · omega
  clear hK hb1 hb2 hH
  have hst : awStart = (awScene.lay, Walk.new 3 1) := rfl
  generalize awScene.lay = s0 at *
  have HST := Lib.hid hst
  clear hst
  go_loopg [3] 20 (fun gg v3 wr => ∃ i : Nat, v3 = .int .i64 i ∧ i + gg = 20 ∧ ∃ s x, walkIter i awStart = (s, x) ∧ Holds k s wr ∧ At wr w2.heap.size 74 x.cells ∧ (0 ≤ x.next ∧ x.next ≤ 18446744073709551615) ∧ Only (OwnX k w2.heap.size) w2 wr)
  case atStart =>
    exact ⟨0, rfl, by omega, s0, Walk.new 3 1, (walkIter_zero _).trans HST.out, H2.alloc _, At.new w2 _ _, by decide, (Only.refl _ w2).alloc _⟩
  case round =>
    obtain ⟨i, rfl, hi, s, x, hs, hH, hA, hn, hO⟩ := hrel
    have HS := Lib.hid hs
    clear hs
    obtain ⟨⟨x0, x1, x2, x3, x4, x5, x6, x7, x8, x9⟩, xf, xl⟩ := walk_facts hA
    by_cases hlt : i < 20
    · go_wp2_with (go_at_call 30; refine (wstep_any x _ hH hn).mono ?_; rintro e w4 ⟨rfl, hH4, hO4⟩; have hA4 := hA.only hO4 hO2.1; obtain ⟨_, zf, zl⟩ := walk_facts hA4)
      go_roundg (20 - (i + 1))
      case measure => omega
      case rel =>
        obtain ⟨p1, p2, p3⟩ := put_walk hH4 hO2 hA4 (s.walkStep x).2
        exact ⟨i + 1, rfl, by omega, _, _, walkIter_next HS.out, p1, p2, step_next hH.ok hn, (hO.trans (onlyX hO4)).trans p3⟩
    · have e : i = 20 := by omega
      rw [e] at HS
      obtain ⟨q1, q2, q3, q4, q5, q6, q7⟩ := aw_pure'
      rw [walkRun_iter, HS.out] at q1 q2 q3 q4 q5 q6 q7
      simp only at q1 q2 q3 q4 q5 q6 q7
      rw [q1] at x9
      rw [q2] at x8
      rw [q3] at x4
      rw [q4] at x6
      have Q5 := Lib.hid q5
      clear q1 q2 q3 q4 q5 e
      go_wp2_with (first
        | (go_at_call 37; refine (wword_any 1 _ hH).mono ?_; rintro e w5 ⟨rfl, hH5, hO5⟩; rw [Q5.out])
        | (go_at_call 35; refine (chain_any 0 _ hH5).mono ?_; rintro e w6 ⟨v6, rfl, hR6, hb6⟩; rw [q6] at hR6; obtain ⟨ao, vc, rfl, hao⟩ := row_any hR6; have hH6 := hH5.below hb6; obtain ⟨_, f5, f6, fl⟩ := hH6.wfacts)
        | (go_at_call 24; refine (steps_any _ hH6.cells).mono ?_; rintro e w7 ⟨rfl, rfl⟩; rw [q7]))
      go_ret
      have hs5 := (hO.trans (onlyX (b := w2.heap.size) hO5)).size
      have hs6 := hB2.size
      refine ⟨rfl, (hB2.trans ((hO.trans (onlyX hO5)).below (by omega) hK')).trans (hb6.mono (by omega))⟩

end Go.Proofs.YtccmjljlfgbicaaGreat

/- Contract of awake (chapter 09). -/
namespace Go.Proofs.YtccmjljlfgbicaaGreat
open Go.ChangeShapes Go.WideShapes Go.ChangeAt Go.RowKit

def awScene09 : Scene := ⟨0, [⟨4, 9, 1, false, false⟩, ⟨2, 0, 0, false, false⟩], []⟩
theorem aw09_fits : awScene09.fits := by
  refine ⟨by decide, ?_, ?_⟩
  · intro i hi
    simp only [awScene09, List.mem_cons, List.not_mem_nil, or_false] at hi
    rcases hi with rfl | rfl
    all_goals (unfold GItem.fits; decide)
  · intro c hc; cases hc
set_option maxRecDepth 100000 in
theorem aw09_pure : awScene09.lay.chain 0 = [2, 3] ∧ awScene09.lay.prs = [(4, 9)] ∧ awScene09.lay.sound = true ∧ (awScene09.lay.chain 1).length = 0 ∧ awScene09.lay.c.buckets = 1 := by decide +kernel

set_option maxRecDepth 100000 in
set_option maxHeartbeats 2000000 in
theorem awake09_any (w : World) : Calls Tryz.prog 40 #[] w fun e w' => e = .returned (.bool true) ∧ Below w.heap.size w w' := by
  have HP := Lib.hid aw09_pure
  generalize hsc : awScene09.lay = s at HP
  have HS := Lib.hid hsc
  clear hsc
  have hlay := fun w v ia ca ic cc h => lay09_any (x := awScene09) (v := v) (ia := ia) (ca := ca) (ic := ic) (cc := cc) w aw09_fits (by decide) (by decide) h
  rw [HS.out] at hlay
  have HLAY := Lib.hid hlay
  clear hlay
  go_enter Tryz.func40, Tryz.ntmps40
  go_wp2_with (first
    | (go_at_call 35; refine (chain_any 1 w4 H4.out).mono ?_; rintro e w5 ⟨v5, rfl, hR5, hb5⟩
       obtain ⟨a5, c5, rfl, -⟩ := row_cells (N := fun _ => True) hR5 (fun _ _ => trivial)
       rw [HP.out.2.2.2.1])
    | (go_at_call 34; refine (lSound_any w3 H3.out).mono ?_; rintro e w4 ⟨rfl, hb4⟩; rw [HP.out.2.2.1]
       have H4 := Lib.hid (H3.out.below hb4))
    | (go_at_call 48; refine (lpairs_any w2 H2.out HP.out.2.2.2.2 (by rw [HP.out.1]; decide)).mono ?_; rintro e w3 ⟨v3, rfl, hR3, hb3⟩
       have P3 := PairsIn.of_row (N := fun _ => True) hR3 (fun _ _ => trivial)
       obtain ⟨a3, c3, rfl⟩ := P3.form
       rw [HP.out.2.1] at P3 ⊢
       obtain ⟨b3, o3, rfl, -, p0, p1⟩ := P3.at_ (i := 0) rfl
       rw [Nat.zero_mul, Nat.add_zero] at p0 p1
       have H3 := Lib.hid (H2.out.below hb3)
       have r0 : w3.cell? ⟨gl, 0, none⟩ = some (.int .i64 2) := by rw [hb3.cell (World.block_lt_of_cell? _ _ t0)]; exact t0
       have r1 : w3.cell? ⟨gl, 1, none⟩ = some (.int .i64 3) := by rw [hb3.cell (World.block_lt_of_cell? _ _ t1)]; exact t1)
    | (go_at_call 35; refine (chain_any 0 w1 hH).mono ?_; rintro e w2 ⟨v2, rfl, hR2, hb2⟩
       obtain ⟨a2, c2, rfl, hRA⟩ := row_cells (N := fun _ => True) hR2 (fun _ _ => trivial)
       rw [HP.out.1] at hRA ⊢
       obtain ⟨gl, rfl, -, t0⟩ := hRA 0 2 rfl
       obtain ⟨gl', e1, -, t1⟩ := hRA 1 3 rfl
       injection e1 with e1
       injection e1 with e1
       subst e1
       have H2 := Lib.hid (hH.below hb2))
    | (go_at_call 41; refine (HLAY.out _ _ _ _ _ _ (sceneAt_built w 0 awScene09.items 107)).mono ?_; rintro e w1 ⟨k, rfl, hH, hK, hb1⟩))
  go_ret
  have z1 := hb1.size
  have z2 := hb2.size
  have z3 := hb3.size
  have z4 := hb4.size
  exact ⟨rfl, ((Below.refl _ w).alloc (Nat.le_refl _) _).trans (((((hb1.trans (hb2.mono z1)).trans (hb3.mono (by omega))).trans (hb4.mono (by omega))).trans (hb5.mono (by omega))).mono (by simp))⟩
end Go.Proofs.YtccmjljlfgbicaaGreat

