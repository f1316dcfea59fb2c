/- A pair of a list in memory. Plain. -/
import Derived.Test.YtccmjljlfgbicaaGreatScn
import Derived.Test.YtccmjljlfgbicaaGreatScene
import Derived.Test.YtccmjljlfgbicaaGreatRegQ
import Derived.Test.YtccmjljlfgbicaaGreatWalkA
import Derived.Test.YtccmjljlfgbicaaGreatEndsP
import Derived.Test.YtccmjljlfgbicaaGreatStW
import Derived.Test.YtccmjljlfgbicaaGreatPrs
import Derived.Test.YtccmjljlfgbicaaGreatLaidK
import Derived.Test.YtccmjljlfgbicaaGreatLook
import Derived.Test.YtccmjljlfgbicaaGreatZLkT
import Derived.Test.YtccmjljlfgbicaaGreatSeq
import Derived.Test.YtccmjljlfgbicaaGreatRegT
import Derived.Test.YtccmjljlfgbicaaGreatZAw
import Derived.Test.YtccmjljlfgbicaaGreatSt
import Derived.Test.YtccmjljlfgbicaaGreatZLkA
import Derived.Test.YtccmjljlfgbicaaGreatOpen
import Derived.WalkKit
import Derived.ProofKit
import Derived.OpenShut
namespace Go.Proofs.YtccmjljlfgbicaaGreat
open Go.ChangeShapes Go.WideShapes Go.ChangeAt Go.RowKit

theorem PairsIn.at_ {w : World} {N : Nat → Prop} {ao : Option Addr} {n cap : Nat} {l : List (Int × Int)} {i : Nat} {p : Int × Int} (h : PairsIn w N (.slice ao n cap) l) (hi : l[i]? = some p) :
    ∃ b o, ao = some ⟨b, o, none⟩ ∧ N b ∧ w.cell? ⟨b, o + i * 2, none⟩ = some (.int .u64 p.1) ∧ w.cell? ⟨b, o + i * 2 + 1, none⟩ = some (.int .u64 p.2) := by
  rcases h with ⟨rfl, _⟩ | ⟨b, o, c, e, _, _, h4, h5⟩
  · cases hi
  · injection e with e1 e2 e3
    obtain ⟨g1, g2⟩ := pairsV_get hi
    exact ⟨b, o, e1, h4, h5 _ _ g1, by rw [Nat.add_assoc]; exact h5 _ _ g2⟩
end Go.Proofs.YtccmjljlfgbicaaGreat

/- Contract of corrieref09.Same. Printed by same09.py out of Same.in. -/
namespace Go.Proofs.YtccmjljlfgbicaaGreat
open Go.ChangeShapes Go.WideShapes Go.ChangeAt Go.RowKit

theorem take_same {α : Type} {l m : List α} {i : Nat} {p : α} (h : l.take i = m.take i) (hl : l[i]? = some p) (hm : m[i]? = some p) : l.take (i + 1) = m.take (i + 1) := by
  rw [List.take_add_one, List.take_add_one, h, hl, hm]

set_option maxRecDepth 100000 in
set_option maxHeartbeats 4000000 in
theorem same09_any {l m : List (Int × Int)} {N M : Nat → Prop} {v u : Value} (w : World) (hp : PairsIn w N v l) (hq : PairsIn w M u m) (hl : l.length ≤ 100000) :
    Calls Tryz.prog 50 #[v, u] w fun e w' => e = .returned (.bool (decide (l = m))) ∧ Below w.heap.size w w' := by
  obtain ⟨ao, cap, rfl⟩ := hp.form
  obtain ⟨bo, cap2, rfl⟩ := hq.form
  have HP := Lib.hid hp
  have HQ := Lib.hid hq
  clear hp hq
  by_cases hlen : l.length = m.length
  · have HL := Lib.hid hlen
    rw [← hlen]
    obtain ⟨n, hn⟩ : ∃ n, n = l.length := ⟨_, rfl⟩
    have HN := Lib.hid hn
    rw [← hn] at hl ⊢
    clear hlen hn
    go_enter Tryz.func50, Tryz.ntmps50
    go_wp2_with fail
    go_loopg [5] n (fun gg v5 wr => ∃ i : Nat, v5 = .int .i64 i ∧ i + gg = n ∧ l.take i = m.take i ∧ Below w.heap.size w wr)
    case atStart => exact ⟨0, rfl, by omega, rfl, Below.refl _ _⟩
    case round =>
      obtain ⟨i, rfl, hi, ht, hb⟩ := hrel
      have HT := Lib.hid ht
      clear ht
      by_cases hlt : i < n
      · have hlt1 : i < l.length := by rw [← HN.out]; exact hlt
        have hlt2 : i < m.length := by rw [← HL.out]; exact hlt1
        obtain ⟨p, hpi⟩ : ∃ p, l[i]? = some p := ⟨_, List.getElem?_eq_getElem hlt1⟩
        obtain ⟨q, hqi⟩ : ∃ q, m[i]? = some q := ⟨_, List.getElem?_eq_getElem hlt2⟩
        obtain ⟨b1, o1, rfl, _, c0, c1⟩ := (HP.out.below hb).at_ hpi
        obtain ⟨b2, o2, rfl, _, d0, d1⟩ := (HQ.out.below hb).at_ hqi
        have HPI := Lib.hid hpi
        have HQI := Lib.hid hqi
        clear hpi hqi hlt1 hlt2
        go_wp2_with fail
        refine wp_region_J (l := [_, _, _, _, _, _, _, _, _]) (QG (fun j v => match j with | 0 => v = .slice (some ⟨b1, o1, none⟩) n cap | 1 => v = .int .i64 i | 2 => v = .pointer (some ⟨b1, o1 + i * 2, none⟩) | 3 => v = .agg #[.int .u64 p.1, .int .u64 p.2] | 4 => v = .slice (some ⟨b2, o2, none⟩) n cap2 | 5 => v = .int .i64 i | 6 => v = .pointer (some ⟨b2, o2 + i * 2, none⟩) | 7 => v = .agg #[.int .u64 q.1, .int .u64 q.2] | 8 => v = .bool (!decide (p = q)) | _ => True) wr) (by kernel_rfl) (by kernel_rfl) (fun us => QG.start us) ⟨?_, ?_, ?_, ?_, ?_, ?_, ?_, ?_, ?_, trivial⟩ ?_
        · intro dn us w6 A hev hy hG hdn hdep K hK
          have e0 : A.eval (.tmp 0) = .slice (some ⟨b1, o1, none⟩) n cap := by rw [hev]; rfl
          rw [if_pos (by rfl)]
          unfold Oper.wp execOp
          generalize A.eval = ev at e0 ⊢
          go_simp
          exact hK _ _ (hG.first (by first | rfl | (simp; done) | (simp; omega) | (simp; assumption)))
        · intro dn us w6 A hev hy hG hdn hdep K hK
          have e0 : A.eval (.tmp 5) = .int .i64 i := by rw [hev]; rfl
          rw [if_pos (by rfl)]
          unfold Oper.wp execOp
          generalize A.eval = ev at e0 ⊢
          go_simp
          exact hK _ _ (hG.first (by first | rfl | (simp; done) | (simp; omega) | (simp; assumption)))
        · intro dn us w6 A hev hy hG hdn hdep K hK
          have d0 : dn 0 = true := allD_mem hdep (by decide)
          have d1 : dn 1 = true := allD_mem hdep (by decide)
          have e0 : A.eval (.tmp 17) = .slice (some ⟨b1, o1, none⟩) n cap := by rw [hev]; exact hG.pre 0 d0
          have e1 : A.eval (.tmp 18) = .int .i64 i := by rw [hev]; exact hG.pre 1 d1
          rw [if_pos (by rfl)]
          unfold Oper.wp execOp
          generalize A.eval = ev at e0 e1 ⊢
          go_simp
          exact hK _ _ (hG.first (by first | rfl | (simp; done) | (simp; omega) | (simp; assumption)))
        · intro dn us w6 A hev hy hG hdn hdep K hK
          have d2 : dn 2 = true := allD_mem hdep (by decide)
          have e0 : A.eval (.tmp 19) = .pointer (some ⟨b1, o1 + i * 2, none⟩) := by rw [hev]; exact hG.pre 2 d2
          have zc0 : w6.cell? ⟨b1, o1 + i * 2, none⟩ = some (.int .u64 p.1) := by rw [hG.below.cell (World.block_lt_of_cell? _ _ c0)]; exact c0
          have zc1 : w6.cell? ⟨b1, o1 + i * 2 + 1, none⟩ = some (.int .u64 p.2) := by rw [hG.below.cell (World.block_lt_of_cell? _ _ c1)]; exact c1
          rw [if_pos (by rfl)]
          unfold Oper.wp execOp
          generalize A.eval = ev at e0 ⊢
          go_simp
          exact hK _ _ (hG.first (by first | rfl | (simp; done) | (simp; omega) | (simp; assumption)))
        · intro dn us w6 A hev hy hG hdn hdep K hK
          have e0 : A.eval (.tmp 1) = .slice (some ⟨b2, o2, none⟩) n cap2 := by rw [hev]; rfl
          rw [if_pos (by rfl)]
          unfold Oper.wp execOp
          generalize A.eval = ev at e0 ⊢
          go_simp
          exact hK _ _ (hG.first (by first | rfl | (simp; done) | (simp; omega) | (simp; assumption)))
        · intro dn us w6 A hev hy hG hdn hdep K hK
          have e0 : A.eval (.tmp 5) = .int .i64 i := by rw [hev]; rfl
          rw [if_pos (by rfl)]
          unfold Oper.wp execOp
          generalize A.eval = ev at e0 ⊢
          go_simp
          exact hK _ _ (hG.first (by first | rfl | (simp; done) | (simp; omega) | (simp; assumption)))
        · intro dn us w6 A hev hy hG hdn hdep K hK
          have d4 : dn 4 = true := allD_mem hdep (by decide)
          have d5 : dn 5 = true := allD_mem hdep (by decide)
          have e0 : A.eval (.tmp 21) = .slice (some ⟨b2, o2, none⟩) n cap2 := by rw [hev]; exact hG.pre 4 d4
          have e1 : A.eval (.tmp 22) = .int .i64 i := by rw [hev]; exact hG.pre 5 d5
          rw [if_pos (by rfl)]
          unfold Oper.wp execOp
          generalize A.eval = ev at e0 e1 ⊢
          go_simp
          exact hK _ _ (hG.first (by first | rfl | (simp; done) | (simp; omega) | (simp; assumption)))
        · intro dn us w6 A hev hy hG hdn hdep K hK
          have d6 : dn 6 = true := allD_mem hdep (by decide)
          have e0 : A.eval (.tmp 23) = .pointer (some ⟨b2, o2 + i * 2, none⟩) := by rw [hev]; exact hG.pre 6 d6
          have zd0 : w6.cell? ⟨b2, o2 + i * 2, none⟩ = some (.int .u64 q.1) := by rw [hG.below.cell (World.block_lt_of_cell? _ _ d0)]; exact d0
          have zd1 : w6.cell? ⟨b2, o2 + i * 2 + 1, none⟩ = some (.int .u64 q.2) := by rw [hG.below.cell (World.block_lt_of_cell? _ _ d1)]; exact d1
          rw [if_pos (by rfl)]
          unfold Oper.wp execOp
          generalize A.eval = ev at e0 ⊢
          go_simp
          exact hK _ _ (hG.first (by first | rfl | (simp; done) | (simp; omega) | (simp; assumption)))
        · intro dn us w6 A hev hy hG hdn hdep K hK
          have d3 : dn 3 = true := allD_mem hdep (by decide)
          have d7 : dn 7 = true := allD_mem hdep (by decide)
          have e0 : A.eval (.tmp 20) = .agg #[.int .u64 p.1, .int .u64 p.2] := by rw [hev]; exact hG.pre 3 d3
          have e1 : A.eval (.tmp 24) = .agg #[.int .u64 q.1, .int .u64 q.2] := by rw [hev]; exact hG.pre 7 d7
          rw [if_pos (by rfl)]
          unfold Oper.wp execOp
          generalize A.eval = ev at e0 e1 ⊢
          go_simp
          by_cases f1 : p.1 = q.1
          · rw [if_pos f1]
            by_cases f2 : p.2 = q.2
            · rw [if_pos f2]
              exact hK (.bool false) _ (hG.first (by show Value.bool false = .bool (!decide (p = q)); rw [decide_eq_true (Prod.ext f1 f2)]; rfl))
            · rw [if_neg f2]
              exact hK (.bool true) _ (hG.first (by show Value.bool true = .bool (!decide (p = q)); rw [decide_eq_false (fun h => f2 (by rw [h]))]; rfl))
          · rw [if_neg f1]
            exact hK (.bool true) _ (hG.first (by show Value.bool true = .bool (!decide (p = q)); rw [decide_eq_false (fun h => f1 (by rw [h]))]; rfl))
        intro dn us wA hG hall
        have u8 : us 8 = .bool (!decide (p = q)) := hG.pre 8 (hall 8 (by decide))
        have DA := hG.below
        by_cases hpq : p = q
        · rw [decide_eq_true hpq, Bool.not_true] at u8
          simp only [fillA, fillT, Nat.reduceAdd, List.setIfInBounds_toArray, List.set_cons_zero, List.set_cons_succ, u8]
          clear hG hall u8
          go_wp2_with fail
          go_roundg (n - (i + 1))
          case measure => omega
          case rel => exact ⟨i + 1, rfl, by omega, take_same HT.out HPI.out (by rw [hpq]; exact HQI.out), hb.trans (DA.mono hb.size)⟩
        · rw [decide_eq_false hpq, Bool.not_false] at u8
          simp only [fillA, fillT, Nat.reduceAdd, List.setIfInBounds_toArray, List.set_cons_zero, List.set_cons_succ, u8]
          clear hG hall u8
          go_wp2_with fail
          go_ret
          refine ⟨?_, hb.trans (DA.mono hb.size)⟩
          rw [decide_eq_false fun e => hpq ?_]
          · rfl
          · have h1 := HPI.out
            rw [e, HQI.out] at h1
            exact (Option.some.inj h1).symm
      · have e : i = n := by omega
        go_wp2_with fail
        go_ret
        refine ⟨?_, hb⟩
        have e2 : l = m := by
          have h := HT.out
          rwa [e, HN.out, List.take_length, HL.out, List.take_length] at h
        rw [decide_eq_true e2]
        rfl
  · have hne : ((l.length : Int) != (m.length : Int)) = true := by rw [bne_iff_ne]; omega
    go_enter Tryz.func50, Tryz.ntmps50
    go_wp2_with fail
    go_ret
    exact ⟨by rw [decide_eq_false (fun e => hlen (by rw [e]))]; rfl, Below.refl _ _⟩
end Go.Proofs.YtccmjljlfgbicaaGreat

/- A world that is held, where one block apart was changed. -/
namespace Go.Proofs.YtccmjljlfgbicaaGreat
open Go.ChangeShapes Go.WideShapes Go.ChangeAt Go.RowKit

theorem Holds.but {k : Blks} {s : St} {W W' : World} (h : Holds k s W) {b : Nat} (hb : Out k b) (ho : Only (fun j => j = b) W W') : Holds k s W' := by
  obtain ⟨h1, h2, h3⟩ := hb
  refine h.keep (S := fun j => j = b) ho (Ne.symm h2) ?_ ?_ (Ne.symm h3) ?_ ?_ ?_
  · rintro rfl; exact h1 (.inl rfl)
  · rintro rfl; exact h1 (.inr (.inl rfl))
  · rintro rfl; exact h1 (.inr (.inr (.inl rfl)))
  · rintro rfl; exact h1 (.inr (.inr (.inr (.inl rfl))))
  · rintro rfl; exact h1 (.inr (.inr (.inr (.inr rfl))))
end Go.Proofs.YtccmjljlfgbicaaGreat

/- What a walk that nobody disturbs leaves behind it. Plain. -/
namespace Go.Proofs.YtccmjljlfgbicaaGreat
open Go.ChangeShapes Go.WideShapes Go.ChangeAt Go.RowKit

/-- From a place over some nodes to the last one. -/
def Seg (s : St) : Int → List Int → Int → Prop
  | n, [], p => n = p
  | n, a :: l, p => s.peek n / 2 = a ∧ a ≠ 0 ∧ Seg s a l p
theorem Seg.last {s : St} : ∀ {l : List Int} {n p : Int}, Seg s n l p → p ∈ n :: l
  | [], _, _, h => by rw [show _ = _ from h]; exact .head _
  | _ :: _, _, _, h => .tail _ h.2.2.last
theorem Seg.congr {s s' : St} : ∀ {l : List Int} {n p : Int}, Seg s n l p → (n :: l).Nodup → (∀ a ∈ n :: l, a ≠ p → s'.peek a / 2 = s.peek a / 2) → Seg s' n l p
  | [], _, _, h, _, _ => h
  | a :: l, n, p, h, hn, he => by
    obtain ⟨h1, h2, h3⟩ := h
    obtain ⟨k1, k2⟩ := List.nodup_cons.1 hn
    have hp := h3.last
    exact ⟨(he n (.head _) fun e => k1 (by rw [e]; exact hp)).trans h1, h2, h3.congr k2 fun b hb hbp => he b (.tail _ hb) hbp⟩
theorem Seg.snoc {s : St} : ∀ {l : List Int} {n p c : Int}, Seg s n l p → s.peek p / 2 = c → c ≠ 0 → Seg s n (l ++ [c]) c
  | [], n, p, c, h, h1, h2 => by
    have e : n = p := h
    exact ⟨by rw [e]; exact h1, h2, rfl⟩
  | _ :: _, _, _, _, h, h1, h2 => ⟨h.1, h.2.1, h.2.2.snoc h1 h2⟩
theorem Seg.path {s : St} : ∀ {l r : List Int} {n p : Int}, Seg s n l p → Path s p r → Path s n (l ++ r)
  | [], _, n, p, h, k => by
    have e : n = p := h
    rw [e]; exact k
  | _ :: _, _, _, _, h, k => ⟨h.1, h.2.1, h.2.2.path k⟩

/-- A node that a walk leaves behind it. -/
structure Cl (s : St) (x : Walk) (a : Int) : Prop where
  un : s.peek a % 2 = 0
  wd : s.peek (s.wordAt (s.carried a)) ≤ 1
  key : s.key a ≤ x.key
  own : x.mode = 1 → s.key a = x.key → s.peek (s.wordAt (s.carried a)) = 1
/-- One node of its key at most. -/
def One (s : St) (x : Walk) (A : List Int) : Prop :=
  (x.seen = -1 ∧ ∀ a ∈ A, s.key a ≠ x.key) ∨ (x.seen ≠ -1 ∧ ∃ B m C, A = B ++ m :: C ∧ s.key m = x.key ∧ s.carried m = x.seen ∧ ∀ a ∈ B ++ C, s.key a ≠ x.key)
/-- A walk under way: what is behind it, and ahead. -/
structure Fl (sd : Prop) (s : St) (x : Walk) (A r : List Int) : Prop where
  wat : WAt s x r
  stop : x.stop = false
  seg : Seg s 1 A x.pred
  nodup : (1 :: (A ++ x.curr :: r)).Nodup
  good : ∀ a ∈ A, Good s a
  ins : ∀ a ∈ A ++ x.curr :: r, (s.call (s.carried a)).kind = 1
  rise : (A ++ x.curr :: r).Pairwise fun a b => s.key a ≤ s.key b
  le : s.key x.curr ≤ x.key
  cl : ∀ a ∈ A, Cl s x a
  one : sd → x.mode = 1 → One s x A
  own : x.phase = 5 ∨ x.phase = 6 ∨ x.phase = 7 → x.mode = 1 ∧ s.key x.curr = x.key
  len : (A ++ x.curr :: r).length ≤ 12
/-- A walk that came to its end. -/
structure Fn (sd : Prop) (s : St) (x : Walk) (A r : List Int) : Prop where
  path : Path s 1 (A ++ r)
  nodup : (1 :: (A ++ r)).Nodup
  good : ∀ a ∈ A ++ r, Good s a
  cl : ∀ a ∈ A, Cl s x a
  big : ∀ a ∈ r, x.key < s.key a
  one : sd → x.mode = 1 → One s x A
  len : (A ++ r).length ≤ 12
/-- The chain of a bucket that is one, and short. -/
def Chn (s : St) : Prop := ∃ L, Path s 1 L ∧ L.length ≤ 12 ∧ ∀ a ∈ L, Good s a
def Res (sd : Prop) (s : St) (x : Walk) : Prop := (x.done = true ∧ Chn s ∧ (x.stop = false → ∃ A r, Fn sd s x A r)) ∨ ∃ A r, Fl sd s x A r
theorem Res.halt {sd : Prop} {s : St} {x : Walk} (h : Res sd s x) : x.stop = true → x.done = true := by
  intro e
  rcases h with ⟨h, _, _⟩ | ⟨A, r, h⟩
  · exact h
  · rw [h.stop] at e; cases e

theorem arrive_res {sd : Prop} {s : St} {x : Walk} {A r : List Int} (hd : x.done = false) (hst : x.stop = false) (hp : 0 < x.pred ∧ x.pred < s.c.nodes) (hm : s.peek x.pred % 2 = 0) (hpath : Path s x.pred r) (hseg : Seg s 1 A x.pred)
    (hnd : (1 :: (A ++ r)).Nodup) (hg : ∀ a ∈ A ++ r, Good s a) (hi : ∀ a ∈ A ++ r, (s.call (s.carried a)).kind = 1) (hr : (A ++ r).Pairwise fun a b => s.key a ≤ s.key b) (hc : ∀ a ∈ A, Cl s x a) (ho : sd → x.mode = 1 → One s x A) (hs : SeenOk s x) (hlen : (A ++ r).length ≤ 12) :
    Res sd s (s.arrive x (s.peek x.pred / 2)) := by
  have full := hseg.path hpath
  have stop : (s.peek x.pred / 2 = 0 ∨ x.key < s.key (s.peek x.pred / 2)) → (∀ a ∈ r, x.key < s.key a) → Res sd s (s.arrive x (s.peek x.pred / 2)) := by
    intro h1 h2
    unfold St.arrive
    rw [if_pos h1]
    exact .inl ⟨rfl, ⟨A ++ r, full, hlen, hg⟩, fun _ => ⟨A, r, full, hnd, hg, fun a ha => ⟨(hc a ha).un, (hc a ha).wd, (hc a ha).key, (hc a ha).own⟩, h2, ho, hlen⟩⟩
  cases r with
  | nil => exact stop (.inl hpath) (fun a ha => by cases ha)
  | cons a l =>
    obtain ⟨ha, ha0, hl⟩ := hpath
    by_cases hk : x.key < s.key a
    · refine stop (.inr (by rw [ha]; exact hk)) fun b hb => ?_
      rcases List.mem_cons.1 hb with rfl | hb
      · exact hk
      · have := (List.pairwise_cons.1 (List.pairwise_append.1 hr).2.1).1 b hb
        omega
    · rw [ha]
      unfold St.arrive
      rw [if_neg (by rintro (e | e); exact ha0 e; exact hk e)]
      have hpm : x.pred ∈ 1 :: A := hseg.last
      have hn2 : (x.pred :: a :: l).Nodup := by
        have : (1 :: (A ++ a :: l)) = (1 :: A) ++ (a :: l) := rfl
        rw [this] at hnd
        obtain ⟨_, n2, n3⟩ := List.nodup_append.1 hnd
        exact List.nodup_cons.2 ⟨fun e => n3 _ hpm _ e rfl, n2⟩
      refine .inr ⟨A, l, ⟨⟨hd, hp, by show s.peek x.pred = 2 * a; omega, hl, hn2, fun b hb => hg b (List.mem_append.2 (.inr hb)), hs, .inl rfl⟩, hst, hseg, hnd, fun b hb => hg b (List.mem_append.2 (.inl hb)), hi, hr, by show s.key a ≤ x.key; omega, fun b hb => ⟨(hc b hb).un, (hc b hb).wd, (hc b hb).key, (hc b hb).own⟩, ho, fun e => ?_, hlen⟩⟩
      rcases e with e | e | e <;> cases e

/-- Where a step stays at its node. -/
theorem Fl.keep {sd : Prop} {s s' : St} {x x' : Walk} {A r : List Int} (h : Fl sd s x A r) (hc : s'.c = s.c) (ho : s'.ops = s.ops) (hn : s'.nodes = s.nodes) (k1 : x'.key = x.key) (k2 : x'.mode = x.mode) (k3 : x'.pred = x.pred) (k4 : x'.curr = x.curr) (k5 : x'.stop = x.stop)
    (w : WAt s' x' r) (hp : ∀ a ∈ 1 :: A, s'.peek a = s.peek a) (hw : ∀ a ∈ A, s'.peek (s.wordAt (s.carried a)) = s.peek (s.wordAt (s.carried a))) (h1 : sd → x'.mode = 1 → One s' x' A) (h2 : x'.phase = 5 ∨ x'.phase = 6 ∨ x'.phase = 7 → x.mode = 1 ∧ s.key x.curr = x.key) : Fl sd s' x' A r := by
  have hcar : ∀ n, s'.carried n = s.carried n := fun n => by unfold St.carried; rw [hn]
  have hcall : ∀ o, s'.call o = s.call o := fun o => by unfold St.call St.callOf; rw [ho]
  have hkey : ∀ n, s'.key n = s.key n := fun n => by unfold St.key; rw [hcar, hcall]
  have hwa : ∀ o, s'.wordAt o = s.wordAt o := fun o => by unfold St.wordAt; rw [hc]
  refine ⟨w, k5.trans h.stop, by rw [k3]; exact h.seg.congr ((List.nodup_append.1 (show ((1 :: A) ++ (x.curr :: r)).Nodup from h.nodup)).1) fun a ha _ => by rw [hp a ha], by rw [k4]; exact h.nodup, fun a ha => ?_, fun a ha => ?_, ?_, by rw [k1, k4, hkey]; exact h.le, fun a ha => ?_, h1, fun e => ?_, by rw [k4]; exact h.len⟩
  · have := h.good a ha
    unfold Good at this ⊢
    rw [hc, hcar]; exact this
  · rw [hcar, hcall]
    rw [k4] at ha
    exact h.ins a ha
  · rw [k4]
    exact h.rise.imp fun {a b} q => by rw [hkey, hkey]; exact q
  · obtain ⟨a1, a2, a3, a4⟩ := h.cl a ha
    exact ⟨by rw [hp a (.tail _ ha)]; exact a1, by rw [hcar, hwa, hw a ha]; exact a2, by rw [k1, hkey]; exact a3, by rw [k1, k2, hkey, hcar, hwa, hw a ha]; exact a4⟩
  · rw [k2, k4, k1, hkey]; exact h2 e

set_option maxHeartbeats 1000000 in
/-- A step of a walk that nobody disturbs. -/
theorem fl_step {sd : Prop} {s : St} {x : Walk} {A r : List Int} (hok : s.ok) (hI : sd → ∃ g, Inv s.vw g ∧ g.sd = true) (hF : Fl sd s x A r) : Res sd (s.walkStep x).1 (s.walkStep x).2 := by
  have h := hF.wat
  have hlen := hok.len
  have hmb := may_bounds hok.may
  have hnb := nodes_bounds hok.may
  have hob := ops_bounds s.c
  have hgc := h.good x.curr (.head _)
  obtain ⟨g0, g1, g2, g3⟩ := hgc
  have hpn : s.nextAt x.pred = x.pred := nextAt_in (by have := h.pred.1; omega) h.pred.2
  have hcn : s.nextAt x.curr = x.curr := nextAt_in (by omega) g1
  have hw : s.wordAt (s.carried x.curr) = s.c.nodes + s.carried x.curr := wordAt_in g2 g3
  have hv0 : 0 ≤ s.peek (s.c.nodes + s.carried x.curr) := (peek_range hok _).1
  have hnd := h.nodup
  obtain ⟨hp1, hnd2⟩ := List.nodup_cons.1 hnd
  obtain ⟨hc1, hnd3⟩ := List.nodup_cons.1 hnd2
  have hpc : x.pred ≠ x.curr := fun e => hp1 (by rw [e]; exact .head _)
  have hpr : x.pred ∉ r := fun e => hp1 (.tail _ e)
  obtain ⟨m1, m2, m3⟩ := List.nodup_append.1 (show ((1 :: A) ++ (x.curr :: r)).Nodup from hF.nodup)
  have hcA : ∀ a ∈ 1 :: A, a ≠ x.curr := fun a ha => m3 a ha x.curr (.head _)
  have hwA : ∀ a ∈ A, s.wordAt (s.carried a) = s.c.nodes + s.carried a ∧ 0 ≤ s.carried a ∧ a < s.c.nodes ∧ 0 < a := fun a ha => by
    have := hF.good a ha
    exact ⟨wordAt_in this.2.2.1 this.2.2.2, this.2.2.1, this.2.1, this.1⟩
  have happ : A ++ [x.curr] ++ r = A ++ x.curr :: r := by simp
  unfold St.walkStep
  rw [if_neg (by rw [h.go]; decide)]
  have adv : ∀ x' : Walk, x'.done = false → x'.stop = false → x'.key = x.key → x'.mode = x.mode → x'.curr = x.curr → x'.next = s.peek x.curr → x'.next % 2 = 0 → SeenOk s x' → Cl s x x.curr → (sd → x.mode = 1 → One s x' (A ++ [x.curr])) →
      ∀ p, Res sd (s.load p) (s.advance x') := by
    intro x' d1 d2 d3 d4 d5 d6 d7 d8 d9 d10 p
    unfold St.advance
    have hcl : ∀ a, Cl s x a → Cl (s.load p) { x' with pred := x'.curr } a := fun a ha => ⟨ha.un, ha.wd, by show s.key a ≤ x'.key; rw [d3]; exact ha.key, fun e1 e2 => ha.own (d4 ▸ e1) (d3 ▸ e2)⟩
    have := arrive_res (sd := sd) (s := s.load p) (x := { x' with pred := x'.curr }) (A := A ++ [x.curr]) (r := r) d1 d2 (by show 0 < x'.curr ∧ x'.curr < s.c.nodes; rw [d5]; exact ⟨g0, g1⟩) (by show s.peek x'.curr % 2 = 0; rw [d5, ← d6]; exact d7)
      (by show Path (s.load p) x'.curr r; rw [d5]; exact h.path.congr fun _ _ => rfl)
      (by show Seg (s.load p) 1 (A ++ [x.curr]) x'.curr; rw [d5]; exact (hF.seg.snoc (by rw [h.link]; omega) (by omega)).congr (by
            have e : (1 :: (A ++ [x.curr])) ++ r = 1 :: (A ++ x.curr :: r) := by simp
            exact (List.nodup_append.1 (by rw [e]; exact hF.nodup)).1) fun _ _ _ => rfl)
      (by rw [happ]; exact hF.nodup)
      (by rw [happ]; intro a ha; rcases List.mem_append.1 ha with q | q; exact hF.good a q; exact h.good a q)
      (by rw [happ]; exact hF.ins) (by rw [happ]; exact hF.rise)
      (by
        intro a ha
        rcases List.mem_append.1 ha with q | q
        · exact hcl a (hF.cl a q)
        · rw [List.mem_singleton.1 q]; exact hcl _ d9)
      (fun e1 e2 => d10 e1 (d4 ▸ e2)) d8 (by rw [happ]; exact hF.len)
    rw [show (s.load p).peek ({ x' with pred := x'.curr } : Walk).pred = x'.next by show s.peek x'.curr = _; rw [d5, d6]] at this
    exact this
  have ldw : ∀ (p : Int) (x' : Walk), x'.key = x.key → x'.mode = x.mode → x'.pred = x.pred → x'.curr = x.curr → x'.stop = x.stop → WAt s x' r → (sd → x'.mode = 1 → One s x' A) → (x'.phase = 5 ∨ x'.phase = 6 ∨ x'.phase = 7 → x.mode = 1 ∧ s.key x.curr = x.key) → Res sd (s.load p) x' := by
    intro p x' k1 k2 k3 k4 k5 w o q
    exact .inr ⟨A, r, hF.keep (s' := s.load p) rfl rfl rfl k1 k2 k3 k4 k5 (w.load p) (fun _ _ => rfl) (fun _ _ => rfl) o q⟩
  rcases h.phase with hp | ⟨hp, hn, hm⟩ | ⟨hp | hp, hn, hm⟩ | ⟨⟨hp, hsn⟩ | hp | hp, hn, hm, hz⟩
  · -- phase 1
    rw [if_neg (by omega), if_neg (by omega), if_pos hp]
    unfold St.walkPeek
    rw [hcn]
    by_cases ho : s.peek x.curr % 2 = 1
    · have e : (s.peek x.curr % 2 == 1) = true := by simpa using ho
      rw [e]
      exact ldw _ _ rfl rfl rfl rfl rfl ⟨h.go, h.pred, h.link, h.path, h.nodup, h.good, h.seen, .inr (.inl ⟨rfl, rfl, ho⟩)⟩ hF.one (by rintro (e | e | e) <;> cases e)
    · have e : (s.peek x.curr % 2 == 1) = false := by simpa using ho
      rw [e]
      exact ldw _ _ rfl rfl rfl rfl rfl ⟨h.go, h.pred, h.link, h.path, h.nodup, h.good, h.seen, .inr (.inr (.inl ⟨.inl rfl, rfl, by show s.peek x.curr % 2 = 0; omega⟩))⟩ hF.one (by rintro (e | e | e) <;> cases e)
  · -- phase 2
    rw [if_neg (by omega), if_neg (by omega), if_neg (by omega), if_pos hp]
    unfold St.walkUnlink
    have hto : 0 ≤ x.next / 2 ∧ x.next / 2 ≤ 2147483647 := by
      rw [hn]
      have hpa := h.path
      cases r with
      | nil => have : s.peek x.curr / 2 = 0 := hpa; omega
      | cons a l =>
        have ha := h.good a (.tail _ (.head _))
        have := hpa.1
        unfold Good at ha
        omega
    rw [hpn, refOf_in (by omega), refOf_in hto]
    have hsw : s.swaps x.pred (2 * x.curr + b2i false) = true := swaps_in (by have := h.pred.1; omega) (by have := h.pred.2; omega) (by rw [h.link]; simp [b2i])
    rw [if_pos hsw]
    generalize hs' : s.swap x.pred (2 * x.curr + b2i false) (2 * (x.next / 2) + b2i false) = s'
    have hpk : ∀ q, s'.peek q = if q = x.pred then 2 * (x.next / 2) + b2i false else s.peek q := by
      intro q; rw [← hs']; exact peek_swap hsw q
    have hc' : s'.c = s.c := by rw [← hs']; rfl
    have hcar : ∀ n, s'.carried n = s.carried n := by intro n; rw [← hs']; rfl
    have hkey : ∀ n, s'.key n = s.key n := by intro n; rw [← hs']; rfl
    have hcall : ∀ n, s'.call n = s.call n := by intro n; rw [← hs']; rfl
    have hwa : ∀ n, s'.wordAt n = s.wordAt n := by intro n; rw [← hs']; rfl
    have hpp : s'.peek x.pred = 2 * (x.next / 2) := by rw [hpk, if_pos rfl]; simp [b2i]
    have hsub : (1 :: (A ++ r)).Nodup := hF.nodup.sublist (List.Sublist.cons_cons 1 (List.Sublist.append_left (List.sublist_cons_self _ _) A))
    have hmem : ∀ a, a ∈ A ++ r → a ∈ A ++ x.curr :: r := fun a ha => by
      rcases List.mem_append.1 ha with q | q
      · exact List.mem_append.2 (.inl q)
      · exact List.mem_append.2 (.inr (.tail _ q))
    have hgg : ∀ a ∈ A ++ r, Good s' a := fun a ha => by
      have : Good s a := by
        rcases List.mem_append.1 ha with q | q
        · exact hF.good a q
        · exact h.good a (.tail _ q)
      unfold Good at this ⊢; rw [hc', hcar]; exact this
    have := arrive_res (sd := sd) (s := s') (x := x) (A := A) (r := r) h.go hF.stop (by rw [hc']; exact h.pred) (by rw [hpp]; omega)
      (h.path.other (by rw [hpp, hn]; omega) (fun a ha => by rw [hpk, if_neg (by rintro rfl; exact hpr ha)]))
      (hF.seg.congr m1 fun a ha hap => by rw [hpk, if_neg hap]) hsub hgg (fun a ha => by rw [hcar, hcall]; exact hF.ins a (hmem a ha))
      ((hF.rise.sublist (List.Sublist.append_left (List.sublist_cons_self _ _) A)).imp fun {a b} q => by rw [hkey, hkey]; exact q)
      (fun a ha => by
        obtain ⟨a1, a2, a3, a4⟩ := hF.cl a ha
        obtain ⟨b1, b2, b3, b4⟩ := hwA a ha
        have e : s'.peek (s'.wordAt (s'.carried a)) = s.peek (s.wordAt (s.carried a)) := by
          rw [hcar, hwa, hpk, if_neg]
          rw [b1]; have := h.pred.2; omega
        refine ⟨?_, by rw [e]; exact a2, by rw [hkey]; exact a3, by rw [hkey, e]; exact a4⟩
        rw [hpk]; split
        · simp [b2i]
        · exact a1)
      (fun e1 e2 => by
        have := hF.one e1 e2
        unfold One at this ⊢
        simp only [hkey, hcar]; exact this)
      (by have := h.seen; unfold SeenOk at this ⊢; rw [hc']; exact this)
      (by have := hF.len; simp only [List.length_append, List.length_cons] at this ⊢; omega)
    rw [show s'.peek x.pred / 2 = x.next / 2 by rw [hpp]; omega] at this
    have e : s.arrive x (x.next / 2) = s'.arrive x (x.next / 2) := by unfold St.arrive; rw [hkey]
    rw [e]
    exact this
  · -- phase 3
    rw [if_neg (by omega), if_neg (by omega), if_neg (by omega), if_neg (by omega), if_pos hp]
    unfold St.walkJudge
    rw [hw]
    unfold St.judged
    by_cases hv : 1 < s.peek (s.c.nodes + s.carried x.curr)
    · rw [if_pos hv]
      exact ldw _ _ rfl rfl rfl rfl rfl ⟨h.go, h.pred, h.link, h.path, h.nodup, h.good, h.seen, .inr (.inr (.inl ⟨.inr rfl, hn, hm⟩))⟩ hF.one (by rintro (e | e | e) <;> cases e)
    rw [if_neg hv]
    have hun : s.peek x.curr % 2 = 0 := by rw [← hn]; exact hm
    by_cases hk : s.key x.curr ≠ x.key
    · rw [if_pos hk]
      refine adv x h.go hF.stop rfl rfl rfl hn hm h.seen ⟨hun, by rw [hw]; omega, hF.le, fun _ e => (hk e).elim⟩ (fun e1 e2 => ?_) _
      rcases hF.one e1 e2 with ⟨q1, q2⟩ | ⟨q1, B, m, C, q2, q3, q4, q5⟩
      · refine .inl ⟨q1, fun a ha => ?_⟩
        rcases List.mem_append.1 ha with ha | ha
        · exact q2 a ha
        · rw [List.mem_singleton.1 ha]; exact hk
      · refine .inr ⟨q1, B, m, C ++ [x.curr], by rw [q2]; simp, q3, q4, fun a ha => ?_⟩
        rw [← List.append_assoc] at ha
        rcases List.mem_append.1 ha with ha | ha
        · exact q5 a ha
        · rw [List.mem_singleton.1 ha]; exact hk
    rw [if_neg hk]
    have hk' : s.key x.curr = x.key := Decidable.not_not.1 hk
    by_cases h2 : x.mode = 2
    · rw [if_pos h2]
      refine .inl ⟨rfl, ⟨A ++ x.curr :: r, ?_, hF.len, fun a ha => ?_⟩, fun e => (by cases e)⟩
      · exact ((hF.seg.path (r := x.curr :: r) ⟨by rw [h.link]; omega, by omega, h.path⟩).congr fun _ _ => rfl)
      · rcases List.mem_append.1 ha with q | q
        · exact hF.good a q
        · exact h.good a q
    rw [if_neg h2]
    by_cases h1 : x.mode = 1
    · rw [if_pos h1]
      by_cases hz : s.peek (s.c.nodes + s.carried x.curr) = 0
      · rw [if_pos hz]
        by_cases hs : x.seen = -1
        · rw [if_pos hs]
          exact ldw _ _ rfl rfl rfl rfl rfl ⟨h.go, h.pred, h.link, h.path, h.nodup, h.good, h.seen, .inr (.inr (.inr ⟨.inr (.inl rfl), hn, hm, by rw [hw]; exact hz⟩))⟩ hF.one (fun _ => ⟨h1, hk'⟩)
        · rw [if_neg hs]
          exact ldw _ _ rfl rfl rfl rfl rfl ⟨h.go, h.pred, h.link, h.path, h.nodup, h.good, h.seen, .inr (.inr (.inr ⟨.inl ⟨rfl, hs⟩, hn, hm, by rw [hw]; exact hz⟩))⟩ hF.one (fun _ => ⟨h1, hk'⟩)
      · rw [if_neg hz]
        by_cases hs : x.seen = s.carried x.curr
        · rw [if_pos hs]
          exact ldw _ _ rfl rfl rfl rfl rfl ⟨h.go, h.pred, h.link, h.path, h.nodup, h.good, h.seen, .inr (.inr (.inl ⟨.inr rfl, hn, hm⟩))⟩ hF.one (by rintro (e | e | e) <;> cases e)
        · rw [if_neg hs]
          have hv1 : s.peek (s.wordAt (s.carried x.curr)) = 1 := by rw [hw]; omega
          refine adv { x with seen := s.carried x.curr } h.go hF.stop rfl rfl rfl hn hm (.inr ⟨g2, g3⟩) ⟨hun, by omega, hF.le, fun _ _ => hv1⟩ (fun e1 e2 => ?_) _
          rcases hF.one e1 e2 with ⟨q1, q2⟩ | ⟨q1, B, m, C, q2, q3, q4, q5⟩
          · exact .inr ⟨by show s.carried x.curr ≠ -1; omega, A, x.curr, [], rfl, hk', rfl, fun a ha => by rw [List.append_nil] at ha; exact q2 a ha⟩
          · exfalso
            obtain ⟨g, hg, hsd⟩ := hI e1
            have hmA : m ∈ A := by rw [q2]; simp
            have hone := hg.one_in hsd (o := s.carried m) (o' := s.carried x.curr) ⟨hF.ins m (List.mem_append.2 (.inl hmA)), (hF.cl m hmA).own e2 q3⟩ ⟨hF.ins x.curr (by simp), hv1⟩ (show s.key m = s.key x.curr by rw [q3, hk'])
            exact hs (by rw [← q4]; exact hone)
    · rw [if_neg h1]
      exact adv x h.go hF.stop rfl rfl rfl hn hm h.seen ⟨hun, by rw [hw]; omega, hF.le, fun e _ => (h1 e).elim⟩ (fun _ e => (h1 e).elim) _
  · -- phase 4
    rw [if_neg (by omega), if_neg (by omega), if_neg (by omega), if_neg (by omega), if_neg (by omega), if_pos hp]
    unfold St.walkMark
    rw [hcn]
    have hsw : s.swaps x.curr x.next = true := swaps_in (by omega) (by omega) hn.symm
    generalize hs' : s.swap x.curr x.next (markOf x.next) = s'
    have hpk : ∀ q, s'.peek q = if q = x.curr then markOf x.next else s.peek q := by
      intro q; rw [← hs']; exact peek_swap hsw q
    have hc' : s'.c = s.c := by rw [← hs']; rfl
    have hcar : ∀ n, s'.carried n = s.carried n := by intro n; rw [← hs']; rfl
    have hpcur : s'.peek x.curr = markOf x.next := by rw [hpk, if_pos rfl]
    refine .inr ⟨A, r, hF.keep hc' (by rw [← hs']; rfl) (by rw [← hs']; rfl) rfl rfl rfl rfl rfl ⟨h.go, by rw [hc']; exact h.pred, by show s'.peek x.pred = _; rw [hpk, if_neg hpc]; exact h.link, ?_, h.nodup, ?_, ?_, .inl rfl⟩ (fun a ha => by rw [hpk, if_neg (hcA a ha)]) (fun a ha => ?_) (fun e1 e2 => ?_) (by rintro (e | e | e) <;> cases e)⟩
    · exact h.path.other (by show s'.peek x.curr / 2 = _; rw [hpcur, hn]; unfold markOf; omega) (fun a ha => by rw [hpk, if_neg (by rintro rfl; exact hc1 ha)])
    · intro a ha; have := h.good a ha; unfold Good at this ⊢; rw [hc', hcar]; exact this
    · have := h.seen; unfold SeenOk at this ⊢; rw [hc']; exact this
    · obtain ⟨b1, b2, b3, b4⟩ := hwA a ha
      rw [hpk, if_neg]
      rw [b1]; omega
    · have hkey : ∀ n, s'.key n = s.key n := by intro n; rw [← hs']; rfl
      have := hF.one e1 e2
      unfold One at this ⊢
      simp only [hkey, hcar]; exact this
  · -- phase 5
    rw [if_neg (by omega), if_neg (by omega), if_neg (by omega), if_neg (by omega), if_neg (by omega), if_neg (by omega), if_pos hp]
    unfold St.walkAgain
    have hsr : 0 ≤ x.seen ∧ x.seen < s.c.ops := h.seen.resolve_left hsn
    have hown := hF.own (.inl hp)
    cases hq : s.peek (s.wordAt x.seen) == 1
    · refine ldw _ _ rfl rfl rfl rfl rfl ⟨h.go, h.pred, h.link, h.path, h.nodup, h.good, .inl rfl, .inr (.inr (.inr ⟨.inr (.inl rfl), hn, hm, hz⟩))⟩ (fun e1 e2 => ?_) (fun _ => hown)
      rcases hF.one e1 e2 with ⟨q1, q2⟩ | ⟨q1, B, m, C, q2, q3, q4, q5⟩
      · exact (hsn q1).elim
      · have hmA : m ∈ A := by rw [q2]; simp
        have := (hF.cl m hmA).own e2 q3
        rw [q4] at this
        rw [this] at hq; cases hq
    · exact ldw _ _ rfl rfl rfl rfl rfl ⟨h.go, h.pred, h.link, h.path, h.nodup, h.good, h.seen, .inr (.inr (.inr ⟨.inr (.inr rfl), hn, hm, hz⟩))⟩ hF.one (fun _ => hown)
  all_goals
    have hown := hF.own (by omega)
    have key : ∀ to : Int, to ≠ 0 → Res sd (s.walkTurn x to).1 (s.walkTurn x to).2 := by
      intro to hto
      unfold St.walkTurn
      rw [hw] at hz ⊢
      have hsw : s.swaps (s.c.nodes + s.carried x.curr) 0 = true := swaps_in (by omega) (by omega) hz
      generalize hs' : s.swap (s.c.nodes + s.carried x.curr) 0 to = s'
      have hpk : ∀ q, s'.peek q = if q = s.c.nodes + s.carried x.curr then to else s.peek q := by
        intro q; rw [← hs']; exact peek_swap hsw q
      have hpo : ∀ q, q < s.c.nodes → s'.peek q = s.peek q := by
        intro q hq; rw [hpk, if_neg (by omega)]
      have hc' : s'.c = s.c := by rw [← hs']; rfl
      have hcar : ∀ n, s'.carried n = s.carried n := by intro n; rw [← hs']; rfl
      have hkey : ∀ n, s'.key n = s.key n := by intro n; rw [← hs']; rfl
      refine .inr ⟨A, r, hF.keep hc' (by rw [← hs']; rfl) (by rw [← hs']; rfl) rfl rfl rfl rfl rfl ⟨h.go, by rw [hc']; exact h.pred, by show s'.peek x.pred = _; rw [hpo _ h.pred.2]; exact h.link, ?_, h.nodup, ?_, ?_, .inr (.inr (.inl ⟨.inl rfl, by show x.next = s'.peek x.curr; rw [hpo _ g1]; exact hn, hm⟩))⟩ (fun a ha => ?_) (fun a ha => ?_) (fun e1 e2 => ?_) (by rintro (e | e | e) <;> cases e)⟩
      · exact h.path.congr fun a ha => by rw [hpo _ (h.good a ha).2.1]
      · intro a ha; have := h.good a ha; unfold Good at this ⊢; rw [hc', hcar]; exact this
      · have := h.seen; unfold SeenOk at this ⊢; rw [hc']; exact this
      · rcases List.mem_cons.1 ha with rfl | ha
        · exact hpo _ (by have := h.pred.2; have := h.pred.1; omega)
        · exact hpo _ (hwA a ha).2.2.1
      · obtain ⟨b1, b2, b3, b4⟩ := hwA a ha
        rw [hpk, if_neg]
        rw [b1]
        intro e
        have ec : s.carried a = s.carried x.curr := by omega
        have ek : s.key a = x.key := by rw [← hown.2]; unfold St.key; rw [ec]
        have := (hF.cl a ha).own hown.1 ek
        rw [ec, hw, hz] at this
        cases this
      · have := hF.one e1 e2
        unfold One at this ⊢
        simp only [hkey, hcar]; exact this
  · rw [if_neg (by omega), if_neg (by omega), if_neg (by omega), if_neg (by omega), if_neg (by omega), if_neg (by omega), if_neg (by omega), if_pos hp]
    exact key 1 (by decide)
  · rw [if_neg (by omega), if_neg (by omega), if_neg (by omega), if_neg (by omega), if_neg (by omega), if_neg (by omega), if_neg (by omega), if_neg (by omega)]
    exact key 2 (by decide)

/-- The chain of a walk under way. -/
theorem Fl.chn {sd : Prop} {s : St} {x : Walk} {A r : List Int} (hF : Fl sd s x A r) : Chn s := by
  have h := hF.wat
  refine ⟨A ++ x.curr :: r, hF.seg.path (r := x.curr :: r) ⟨by rw [h.link]; omega, ?_, h.path⟩, hF.len, fun a ha => ?_⟩
  · have := (h.good x.curr (.head _)).1; omega
  · rcases List.mem_append.1 ha with q | q
    · exact hF.good a q
    · exact h.good a q
theorem Res.chn {sd : Prop} {s : St} {x : Walk} (h : Res sd s x) : Chn s := by
  rcases h with ⟨_, h, _⟩ | ⟨A, r, h⟩
  · exact h
  · exact h.chn
/-- A walk that nobody disturbs changes words of its key alone, when it decides. -/
theorem fl_wd {sd : Prop} {s : St} {x : Walk} {A r : List Int} (hF : Fl sd s x A r) (o : Int) : (s.walkStep x).1.vw.wd o = s.vw.wd o ∨ (x.mode = 1 ∧ s.vw.ky o = x.key) := by
  have h := hF.wat
  obtain ⟨g0, g1, g2, g3⟩ := h.good x.curr (.head _)
  have hpn : s.nextAt x.pred = x.pred := nextAt_in (by have := h.pred.1; omega) h.pred.2
  have hcn : s.nextAt x.curr = x.curr := nextAt_in (by omega) g1
  have hw : s.wordAt (s.carried x.curr) = s.c.nodes + s.carried x.curr := wordAt_in g2 g3
  have nod : ∀ p old z : Int, 0 ≤ p → p < s.c.nodes → (s.swap p old z).vw.wd o = s.vw.wd o := by
    intro p old z hp0 hp
    show (s.swap p old z).peek (s.wordAt o) = s.peek (s.wordAt o)
    refine peek_swap_other ?_
    rcases wordAt_cases s o with ⟨e, a, b⟩ | ⟨e, _⟩ <;> omega
  have trn : ∀ z : Int, x.mode = 1 ∧ s.key x.curr = x.key → (s.walkTurn x z).1.vw.wd o = s.vw.wd o ∨ (x.mode = 1 ∧ s.vw.ky o = x.key) := by
    intro z hown
    by_cases e : o = s.carried x.curr
    · exact .inr ⟨hown.1, by rw [e]; exact hown.2⟩
    · refine .inl ?_
      show (s.swap (s.wordAt (s.carried x.curr)) 0 z).peek (s.wordAt o) = s.peek (s.wordAt o)
      refine peek_swap_other ?_
      rw [hw]
      rcases wordAt_cases s o with ⟨e1, a, b⟩ | ⟨e1, _⟩ <;> omega
  unfold St.walkStep
  split; · exact .inl rfl
  split; · exact .inl rfl
  split; · exact .inl rfl
  split; · exact .inl rfl
  split
  · refine .inl ?_
    unfold St.walkUnlink
    rw [hpn]
    exact nod _ _ _ (by have := h.pred.1; omega) h.pred.2
  split; · exact .inl rfl
  split
  · refine .inl ?_
    unfold St.walkMark
    rw [hcn]
    exact nod _ _ _ (by omega) g1
  split; · exact .inl rfl
  rename_i h0 h1 h2 h3 h4 h5 h6 h7
  split
  · rename_i h8
    exact trn 1 (hF.own (.inr (.inl h8)))
  · rename_i h8
    refine trn 2 (hF.own (.inr (.inr ?_)))
    omega
end Go.Proofs.YtccmjljlfgbicaaGreat

/- WalkCleans, the plain law: what stands behind a walk in a scene's world that nobody disturbs. -/
namespace Go.Proofs.YtccmjljlfgbicaaGreat
open Go.ChangeShapes Go.WideShapes Go.ChangeAt Go.RowKit

theorem path_uniq {s : St} : ∀ {l r : List Int} {n : Int}, Path s n l → Path s n r → l = r
  | [], [], _, _, _ => rfl
  | [], b :: r, n, h, k => by
    have h' : s.peek n / 2 = 0 := h
    exact (k.2.1 (by rw [← k.1, h'])).elim
  | a :: l, [], n, h, k => by
    have k' : s.peek n / 2 = 0 := k
    exact (h.2.1 (by rw [← h.1, k'])).elim
  | a :: l, b :: r, n, h, k => by
    have e : a = b := h.1.symm.trans k.1
    subst e
    rw [path_uniq h.2.2 k.2.2]
/-- The nodes behind a place, where these are all. -/
theorem behind_path {s : St} : ∀ {l : List Int} {n : Int} (m : Nat), Path s n l → (∀ a ∈ n :: l, s.nextAt a = a) → l.length ≤ m → s.behind m n = l
  | [], n, 0, _, _, _ => rfl
  | [], n, m + 1, h, ha, _ => by
    have e : s.follow n = 0 := by unfold St.follow; rw [ha n (.head _)]; exact h
    unfold St.behind
    rw [if_pos e]
  | a :: l, n, 0, _, _, hl => by simp at hl
  | a :: l, n, m + 1, h, ha, hl => by
    have e : s.follow n = a := by unfold St.follow; rw [ha n (.head _)]; exact h.1
    unfold St.behind
    rw [e, if_neg h.2.1, behind_path m h.2.2 (fun b hb => ha b (.tail _ hb)) (by simp only [List.length_cons] at hl; omega)]
theorem chain_path {s : St} (hb : s.c.buckets = 1) {l : List Int} (h : Path s 1 l) (hg : ∀ a ∈ l, Good s a) (hl : (l.length : Int) ≤ s.c.nodes) (h1 : 1 < s.c.nodes) : s.chain 0 = l := by
  have hh : s.headAt 0 = 1 := by unfold St.headAt; rw [hb]; rfl
  unfold St.chain
  rw [hh, if_neg (by decide)]
  refine behind_path _ h (fun a ha => ?_) (by omega)
  rcases List.mem_cons.1 ha with rfl | ha
  · exact nextAt_in (by decide) h1
  · have := hg a ha
    exact nextAt_in (by have := this.1; omega) this.2.1
theorem nodesFrom_eq : ∀ (j k : Nat), nodesFrom k j = laidL k j
  | 0, _ => rfl
  | j + 1, k => by
    rw [nodesFrom_succ, laidL, nodesFrom_eq j (k + 1)]

theorem laid_pairs {s : St} {j : Nat} (hL : LaidV s.vw j) : ∀ k t, t + k ≤ j → (laidL t k).Pairwise fun a b => s.key a ≤ s.key b
  | 0, _, _ => .nil
  | k + 1, t, h => by
    unfold laidL
    refine .cons (fun b hb => ?_) (laid_pairs hL k (t + 1) (by omega))
    rw [laidL_mem] at hb
    have := hL.rise' (a := t) (b := (b - 2).toNat) (by omega) (by omega)
    rw [show (2 + ((b - 2).toNat : Int)) = b by omega] at this
    exact this
theorem walk_same (s : St) (x : Walk) : (s.walkStep x).2.key = x.key ∧ (s.walkStep x).2.mode = x.mode ∧ (s.walkStep x).1.c = s.c ∧ (s.walkStep x).1.ops = s.ops ∧ (s.walkStep x).1.nodes = s.nodes ∧ (s.walkStep x).1.thr = s.thr := by
  have ha : ∀ (x : Walk) (n : Int), (s.arrive x n).key = x.key ∧ (s.arrive x n).mode = x.mode := by
    intro x n
    unfold St.arrive; split <;> exact ⟨rfl, rfl⟩
  unfold St.walkStep
  split; · exact ⟨rfl, rfl, rfl, rfl, rfl, rfl⟩
  split; · exact ⟨rfl, rfl, rfl, rfl, rfl, rfl⟩
  split
  · unfold St.walkBegin
    exact ⟨(ha _ _).1, (ha _ _).2, rfl, rfl, rfl, rfl⟩
  split; · exact ⟨rfl, rfl, rfl, rfl, rfl, rfl⟩
  split
  · unfold St.walkUnlink
    dsimp only
    split
    · exact ⟨(ha _ _).1, (ha _ _).2, rfl, rfl, rfl, rfl⟩
    · exact ⟨rfl, rfl, rfl, rfl, rfl, rfl⟩
  split
  · unfold St.walkJudge St.judged St.advance
    dsimp only
    repeat' split
    all_goals first | exact ⟨rfl, rfl, rfl, rfl, rfl, rfl⟩ | exact ⟨(ha _ _).1, (ha _ _).2, rfl, rfl, rfl, rfl⟩
  split; · exact ⟨rfl, rfl, rfl, rfl, rfl, rfl⟩
  split
  · unfold St.walkAgain
    dsimp only
    split <;> exact ⟨rfl, rfl, rfl, rfl, rfl, rfl⟩
  split <;> exact ⟨rfl, rfl, rfl, rfl, rfl, rfl⟩

/-- So many steps are behind a walk. -/
structure ClnAt (x : Scene) (key mode : Int) (sd : Prop) (i : Nat) (s : St) (y : Walk) : Prop where
  ends : EndsAt x key mode i s y
  ok : s.ok
  km : y.key = key ∧ y.mode = mode
  c : s.c = x.lay.c
  ops : s.ops = x.lay.ops
  nodes : s.nodes = x.lay.nodes
  wd : ∀ o, s.vw.wd o = x.lay.vw.wd o ∨ (mode = 1 ∧ x.lay.vw.ky o = key)
  at_ : (i = 0 ∧ s = x.lay ∧ y = Walk.new key mode) ∨ (0 < i ∧ Res sd s y)
  inv : sd → ∃ g t, Inv s.vw g ∧ g.sd = true ∧ t ≤ g.T ∧ Wst s g y t ∧ Grow x.lay.vw (laidG x.items.length true) s.vw g
/-- A scene's world, sound. -/
def Scene.sound (x : Scene) : Prop := x.lay.vw.sndRun 0 ⟨[], [], [], 0⟩ (x.lay.chain 0) = true
theorem lay_chain {x : Scene} (hx : x.fits) (hlen : x.items.length ≤ 12) : x.lay.chain 0 = laidL 0 x.items.length := by
  obtain ⟨h1, h2, h3, h4, h5, h6⟩ := lay_path hx hlen
  have hnn : x.lay.c.nodes = 98 := by rw [h2]; exact conf_nodes hx.fuel
  rw [← nodesFrom_eq]
  exact chain_path (by rw [h2]; rfl) h3 h6 (by rw [nodesFrom_len, hnn]; omega) (by rw [hnn]; decide)
theorem lay_inv {x : Scene} (hx : x.fits) (hlen : x.items.length ≤ 12) (hs : x.sound) : Inv x.lay.vw (laidG x.items.length true) :=
  inv_of_laid (lay_laidV hx hlen).1 true fun _ => by rw [← lay_chain hx hlen]; exact hs
theorem cln_start {x : Scene} (hx : x.fits) (hlen : x.items.length ≤ 12) (key mode : Int) : ClnAt x key mode x.sound 0 x.lay (Walk.new key mode) :=
  ⟨ends_start x key mode, (lay_path hx hlen).1, ⟨rfl, rfl⟩, rfl, rfl, rfl, fun _ => .inl rfl, .inl ⟨rfl, rfl, rfl⟩, fun hs => ⟨laidG x.items.length true, 0, lay_inv hx hlen hs, rfl, (by show (0 : Int) ≤ (x.items.length : Int); omega), .ahead rfl rfl, Grow.refl _ _⟩⟩
theorem walk_ok' {s : St} {x : Walk} (hok : s.ok) (hn : 0 ≤ x.next ∧ x.next ≤ 18446744073709551615) : (s.walkStep x).1.ok := by
  have hr : ∀ n m, 0 ≤ refOf n m ∧ refOf n m ≤ 18446744073709551615 := ref_fits
  unfold St.walkStep
  split; · exact hok
  split; · exact hok
  split; · exact ok_load hok _
  split; · exact ok_load hok _
  split; · exact ok_swap hok _ _ (hr _ _)
  split; · exact ok_load hok _
  split; · exact ok_swap hok _ _ (markOf_range hn.1 hn.2)
  split; · exact ok_load hok _
  split <;> exact ok_swap hok _ _ (by decide)
theorem cln_step {x : Scene} (hx : x.fits) (hlen : x.items.length ≤ 12) {key mode : Int} {i : Nat} {s : St} {y : Walk} (h : ClnAt x key mode x.sound i s y) : ClnAt x key mode x.sound (i + 1) (s.walkStep y).1 (s.walkStep y).2 := by
  obtain ⟨e1, e2, e3, e4, e5, _⟩ := walk_same s y
  have hst : y.stop = true → y.done = true := by
    rcases h.at_ with ⟨_, _, rfl⟩ | ⟨_, hr⟩
    · intro e; cases e
    · exact hr.halt
  refine ⟨(ends_step hx hlen h.ok h.ends).2.2, walk_ok' h.ok h.ends.next, ⟨e1.trans h.km.1, e2.trans h.km.2⟩, e3.trans h.c, e4.trans h.ops, e5.trans h.nodes, fun o => ?_, .inr ⟨by omega, ?_⟩, fun hs => ?_⟩
  · have hky : s.vw.ky o = x.lay.vw.ky o := by show (s.call o).key = (x.lay.call o).key; unfold St.call St.callOf; rw [h.ops]
    rcases h.at_ with ⟨_, rfl, rfl⟩ | ⟨_, ⟨hd, _⟩ | ⟨A, r, hF⟩⟩
    · exact .inl rfl
    · have e : s.walkStep y = (s, y) := by unfold St.walkStep; rw [if_pos hd]
      rw [e]; exact h.wd o
    · rcases fl_wd hF o with q | ⟨q1, q2⟩
      · rw [q]; exact h.wd o
      · exact .inr ⟨h.km.2.symm.trans q1, by rw [← hky, q2]; exact h.km.1⟩
  · rcases h.at_ with ⟨_, rfl, rfl⟩ | ⟨_, ⟨hd, hch, hr⟩ | ⟨A, r, hF⟩⟩
    · obtain ⟨h1, h2, h3, h4, h5, h6⟩ := lay_path hx hlen
      have hc : x.lay.c.buckets = 1 := by rw [h2]; rfl
      have hnn : x.lay.c.nodes = 98 := by rw [h2]; exact conf_nodes hx.fuel
      have hh := head_one hc key
      have hL := (lay_laidV hx hlen).1
      have e : x.lay.walkStep (Walk.new key mode) = x.lay.walkBegin (Walk.new key mode) := rfl
      rw [e]
      unfold St.walkBegin
      have hn : x.lay.nextAt (x.lay.head (Walk.new key mode).key) = 1 := by
        show x.lay.nextAt (x.lay.head key) = 1
        rw [hh]; exact nextAt_in (by decide) (by rw [hnn]; decide)
      rw [hn]
      have hm : ∀ a, a ∈ nodesFrom 0 x.items.length → ∃ t : Nat, t < x.items.length ∧ a = 2 + t := by
        intro a ha
        rw [nodesFrom_eq, laidL_mem] at ha
        exact ⟨(a - 2).toNat, by omega, by omega⟩
      have hp2 : (nodesFrom 0 x.items.length).Pairwise fun a b => x.lay.key a ≤ x.lay.key b := by
        rw [nodesFrom_eq]
        exact laid_pairs hL x.items.length 0 (by omega)
      have := arrive_res (sd := x.sound) (s := x.lay.load 1) (x := { Walk.new key mode with pred := x.lay.head (Walk.new key mode).key, seen := -1 }) (A := []) (r := nodesFrom 0 x.items.length) rfl rfl (by show 0 < x.lay.head key ∧ x.lay.head key < x.lay.c.nodes; rw [hh, hnn]; decide) (by show x.lay.peek (x.lay.head key) % 2 = 0; rw [hh]; exact h4)
        (by show Path (x.lay.load 1) (x.lay.head key) _; rw [hh]; exact h3.congr fun _ _ => rfl) (by show (1 : Int) = x.lay.head key; rw [hh]) h5 h6 (fun a ha => by obtain ⟨t, ht, rfl⟩ := hm a ha; exact hL.ins t ht) hp2 (fun a ha => by cases ha) (fun _ _ => .inl ⟨rfl, fun a ha => by cases ha⟩) (.inl rfl) (by show (nodesFrom 0 x.items.length).length ≤ 12; rw [nodesFrom_len]; exact hlen)
      rw [show (x.lay.load 1).peek ({ Walk.new key mode with pred := x.lay.head (Walk.new key mode).key, seen := -1 } : Walk).pred = x.lay.peek 1 by show x.lay.peek (x.lay.head key) = _; rw [hh]] at this
      exact this
    · have e : s.walkStep y = (s, y) := by unfold St.walkStep; rw [if_pos hd]
      rw [e]; exact .inl ⟨hd, hch, hr⟩
    · exact fl_step h.ok (fun hs => let ⟨g, _, a, b, _⟩ := h.inv hs; ⟨g, a, b⟩) hF
  · obtain ⟨g, t, I, hg, ht, hW, hG⟩ := h.inv hs
    obtain ⟨t1, a1, a2, a3, a4, a5⟩ := walk_inv h.ok I hst ht hW
    exact ⟨g, t1, a3, hg, a2, a5, hG.trans I a4⟩

/-- What the law asks of each node. -/
def Tidy (s : St) (key mode n : Int) : Prop :=
  ¬ ((s.key n ≤ key ∧ (1 < s.peek (s.wordAt (s.carried n)) ∨ s.peek (s.nextAt n) % 2 = 1)) ∨ (s.key n = key ∧ mode = 1 ∧ s.peek (s.wordAt (s.carried n)) = 0))
def St.inB (s : St) (key n : Int) : Bool := s.key n == key && s.peek (s.wordAt (s.carried n)) == 1
theorem cln_end {x : Scene} (hx : x.fits) (hlen : x.items.length ≤ 12) {key mode : Int} {i : Nat} {s : St} {y : Walk} (h : ClnAt x key mode x.sound i s y) (hi : i = 12 * x.items.length + 4) :
    y.done = true ∧ (y.stop = false → (∀ n ∈ s.chain 0, Tidy s key mode n) ∧ (mode = 1 → x.sound → (s.chain 0).countP (s.inB key) ≤ 1)) := by
  have hd := ends_end h.ends hi
  refine ⟨hd, fun hs => ?_⟩
  rcases h.at_ with ⟨e, _⟩ | ⟨_, ⟨_, _, hr⟩ | ⟨A, r, hF⟩⟩
  · omega
  · obtain ⟨A, r, hF⟩ := hr hs
    have hc : s.c.buckets = 1 := by rw [h.c, (lay_path hx hlen).2.1]; rfl
    have hnn : s.c.nodes = 98 := by rw [h.c, (lay_path hx hlen).2.1]; exact conf_nodes hx.fuel
    have hch : s.chain 0 = A ++ r := chain_path hc hF.path hF.good (by have := hF.len; rw [hnn]; omega) (by rw [hnn]; decide)
    rw [hch]
    refine ⟨fun n hn => ?_, fun hm hsd => ?_⟩
    · have hnx : s.nextAt n = n := by
        have := hF.good n hn
        exact nextAt_in (by have := this.1; omega) this.2.1
      unfold Tidy
      rw [hnx]
      rcases List.mem_append.1 hn with hn | hn
      · obtain ⟨a1, a2, a3, a4⟩ := hF.cl n hn
        rw [h.km.1, h.km.2] at a4
        rintro (⟨_, q | q⟩ | ⟨q1, q2, q3⟩)
        · omega
        · omega
        · have := a4 q2 q1; omega
      · have := hF.big n hn
        rw [h.km.1] at this
        rintro (⟨q, _⟩ | ⟨q, _⟩) <;> omega
    · have hr0 : r.countP (s.inB key) = 0 := by
        rw [List.countP_eq_zero]
        intro a ha hq
        have := hF.big a ha
        rw [h.km.1] at this
        unfold St.inB at hq
        simp at hq
        omega
      rw [List.countP_append, hr0]
      have hne : ∀ l : List Int, (∀ a ∈ l, s.key a ≠ key) → l.countP (s.inB key) = 0 := by
        intro l hl
        rw [List.countP_eq_zero]
        intro a ha hq
        unfold St.inB at hq
        simp at hq
        exact hl a ha hq.1
      rcases hF.one hsd (h.km.2.trans hm) with ⟨_, q⟩ | ⟨_, B, m, C, q1, q2, q3, q4⟩
      · rw [hne A (by rw [← h.km.1]; exact q)]; omega
      · rw [h.km.1] at q4
        rw [q1, List.countP_append, List.countP_cons, hne B fun a ha => q4 a (List.mem_append.2 (.inl ha)), hne C fun a ha => q4 a (List.mem_append.2 (.inr ha))]
        split <;> omega
  · have := hF.wat.go
    rw [hd] at this; cases this
end Go.Proofs.YtccmjljlfgbicaaGreat

/- WalkCleans, the walk. Printed by clnw.py out of ClnW.in. -/
namespace Go.Proofs.YtccmjljlfgbicaaGreat
open Go.ChangeShapes Go.WideShapes Go.ChangeAt Go.RowKit

abbrev St.ats (s : St) (n : Int) : St := { s with steps := n }
theorem wrap64_in9 {n : Int} (h0 : 0 ≤ n) (h1 : n ≤ 9223372036854775807) : wrap64 n = n := by unfold wrap64; omega
theorem new_below9 {w w' : World} {o : Obj} (h : Only (fun j => j = w.heap.size) (w.alloc o) w') : Below w.heap.size w w' :=
  ((Below.refl _ w).alloc (Nat.le_refl _) _).trans (h.below (by simp) fun j hj e => by have e' : j = w.heap.size := e; omega)
/-- A row of numbers in memory. -/
def RowAt (N : Nat → Prop) (ao : Option Addr) (l : List Int) (w : World) : Prop := ∀ (t : Nat) (n : Int), l[t]? = some n → ∃ gl, ao = some ⟨gl, 0, none⟩ ∧ N gl ∧ w.cell? ⟨gl, t, none⟩ = some (.int .i64 n)
theorem row_cells {w : World} {base : Nat} {v : Value} {l : List Int} {N : Nat → Prop} (h : w.ownsRow base 3 1 v l.length (l.map (.int .i64))) (hN : ∀ g, base ≤ g → N g) : ∃ ao cap, v = .slice ao l.length cap ∧ RowAt N ao l w := by
  rcases h.2 with ⟨rfl, h2⟩ | ⟨g, cap, cur, rfl, h2, h3, h4, h5, h6, h7⟩
  · have e : l = [] := List.length_eq_zero_iff.1 (by omega)
    subst e
    exact ⟨none, 0, rfl, fun t n ht => by cases ht⟩
  · have hA : At w g 3 cur := h3
    refine ⟨some ⟨g, 0, none⟩, cap, rfl, fun t n ht => ⟨g, rfl, hN g h2, ?_⟩⟩
    have hm : (l.map (Value.int .i64))[t]? = some (.int .i64 n) := by simp [ht]
    rw [hA.cell, ← Array.getElem?_toList]
    rw [← h7, List.getElem?_take] at hm
    split at hm
    · exact hm
    · cases hm

/-- What is known at the head of each round behind the walk. -/
structure ClnB (k : Blks) (s : St) (g : Nat) (ao : Option Addr) (y : Walk) (w : World) (m : Int) (wr : World) : Prop where
  holds : Holds k (s.ats m) wr
  walk : At wr g 74 y.cells
  row : RowAt (fun z => ¬ Own k z) ao (s.chain 0) wr
  below : Below w.heap.size w wr
theorem ClnB.only {k : Blks} {s : St} {g : Nat} {ao : Option Addr} {y : Walk} {w wr w' : World} {m m' : Int} (h : ClnB k s g ao y w m wr) (hH : Holds k (s.ats m') w') (hO : Only (Own k) wr w') (hg : ¬ Own k g) (hk : ∀ z, Own k z → w.heap.size + 1 ≤ z) : ClnB k s g ao y w m' w' :=
  ⟨hH, h.walk.only hO hg, fun t n e => by
    obtain ⟨gl, a, b, c⟩ := h.row t n e
    exact ⟨gl, a, b, cell_only c hO b⟩, h.below.trans (hO.below h.below.size fun i hi e => by have := hk i e; omega)⟩
theorem ClnB.still {k : Blks} {s : St} {g : Nat} {ao : Option Addr} {y : Walk} {w wr w' : World} {m : Int} (h : ClnB k s g ao y w m wr) (hb : Below wr.heap.size wr w') : ClnB k s g ao y w m w' :=
  ⟨h.holds.below hb, h.walk.below' hb, fun t n e => by
    obtain ⟨gl, a, b, c⟩ := h.row t n e
    exact ⟨gl, a, b, by rw [hb.cell (World.block_lt_of_cell? _ _ c)]; exact c⟩, h.below.trans (hb.mono h.below.size)⟩
def St.inC (s : St) (key : Int) (i : Nat) : Nat := ((s.chain 0).take i).countP (s.inB key)
theorem inC_succ {s : St} {key : Int} {i : Nat} {n : Int} (h : (s.chain 0)[i]? = some n) : s.inC key (i + 1) = s.inC key i + if s.inB key n then 1 else 0 := by
  unfold St.inC
  rw [List.take_add_one, h, List.countP_append]
  simp [List.countP_cons]
theorem inC_le (s : St) (key : Int) (i : Nat) : s.inC key i ≤ (s.chain 0).countP (s.inB key) := List.Sublist.countP_le (List.take_sublist _ _)

set_option maxRecDepth 100000 in
set_option maxHeartbeats 4000000 in
theorem cleans_walk {x : Scene} {v : Value} {ia ca : Option Addr} {ic cc : Nat} (key mode : Int) (w : World) (hx : x.fits) (hS : SceneAt w v x ia ca ic cc) :
    Calls Tryz.prog 7 #[v, .int .u64 key, .int .i64 mode] w fun e w' => e = .returned (.bool true) ∧ Below w.heap.size w w' := by
  have HS := Lib.hid hS
  obtain ⟨rfl, _, _⟩ := hS
  have HX := Lib.hid hx
  clear hx
  have E0 := At.new w 25 #[.int .u8 x.fuel, .slice ia x.items.length ic, .slice ca x.calls.length cc]
  have D0 : Below w.heap.size w (w.alloc (.cells #[.int .u8 x.fuel, .slice ia x.items.length ic, .slice ca x.calls.length cc] 25)) := (Below.refl _ w).alloc (Nat.le_refl _) _
  cases hfew : x.few with
  | false =>
    have HF := Lib.hid hfew
    clear hfew
    go_enter Tryz.func7, Tryz.ntmps7
    go_upto_region 1 with fail
    generalize w.alloc (.cells #[.int .u8 x.fuel, .slice ia x.items.length ic, .slice ca x.calls.length cc] 25) = w0 at *
    go_wp2_with (first
      | (go_at_call 14; refine (few_any _).mono ?_; rintro e w2 ⟨rfl, hb2⟩; rw [HF.out])
      | (refine wpl_ld rfl 25 _ rfl #[.int .u8 x.fuel, .slice ia x.items.length ic, .slice ca x.calls.length cc] rfl _ (E0.below' hb1) Tryz.underlying25 rfl (by kernel_rfl) rfl ?_)
      | (go_at_call 25; refine (awake10_any _).mono ?_; rintro e w1 ⟨rfl, hb1⟩))
    go_ret
    exact ⟨rfl, D0.trans ((hb1.trans (hb2.mono hb1.size)).mono D0.size)⟩
  | true =>
    have HF := Lib.hid hfew
    have hlen : x.items.length ≤ 12 ∧ x.calls.length ≤ 6 := by
      unfold Scene.few at hfew
      simpa using hfew
    clear hfew
    obtain ⟨m, hm⟩ : ∃ m : Nat, m = 12 * x.items.length + 4 := ⟨_, rfl⟩
    have HM := Lib.hid hm
    have e1 : IntKind.i64.wrap (12 * (x.items.length : Int)) = 12 * (x.items.length : Int) := IntWalk.i64_in _ (by omega)
    have e2 : IntKind.i64.wrap (12 * (x.items.length : Int) + 4) = (m : Int) := by rw [IntWalk.i64_in _ (by omega)]; omega
    have hm9 : m ≤ 148 := by omega
    clear hm
    have hbk : x.lay.c.buckets = 1 := by rw [(lay_path HX.out hlen.1).2.1]; rfl
    have HSD := Lib.hid (show x.lay.sound = true ↔ x.sound by rw [St.sound_one hbk]; rfl)
    have HL := Lib.hid hlen
    clear hbk hlen
    go_enter Tryz.func7, Tryz.ntmps7
    go_upto_region 1 with fail
    generalize w.alloc (.cells #[.int .u8 x.fuel, .slice ia x.items.length ic, .slice ca x.calls.length cc] 25) = w0 at *
    go_wp2_with (first
      | (refine wpl_st rfl 74 _ _ rfl (Walk.cells (Walk.new key mode)) rfl _ rfl (At.new w5 _ _) (by kernel_rfl) rfl rfl rfl ?_; intro w6 A6 O6
         have D56 := new_below9 O6)
      | (go_at_call 27; refine (walknew_any key mode _).mono ?_; rintro e w5 ⟨rfl, hb5⟩)
      | (go_at_call 34; refine (lSound_any _ hH).mono ?_; rintro e w4 ⟨rfl, hb4⟩)
      | (go_at_call 26; refine (lay10_any w2 HX.out HL.out.1 HL.out.2 ⟨rfl, HS.out.items.below D2, HS.out.calls.below D2⟩).mono ?_; rintro e w3 ⟨k, rfl, hH, hK, hb3⟩
         have D3 := D2.trans (hb3.mono D2.size))
      | (refine wpl_ld rfl 25 _ rfl #[.int .u8 x.fuel, .slice ia x.items.length ic, .slice ca x.calls.length cc] rfl _ ((E0.below' hb1).below' hb2) Tryz.underlying25 rfl (by kernel_rfl) rfl ?_)
      | (go_at_call 14; refine (few_any _).mono ?_; rintro e w2 ⟨rfl, hb2⟩; rw [HF.out]
         have D2 := D0.trans ((hb1.trans (hb2.mono hb1.size)).mono D0.size))
      | (refine wpl_ld rfl 25 _ rfl #[.int .u8 x.fuel, .slice ia x.items.length ic, .slice ca x.calls.length cc] rfl _ (E0.below' hb1) Tryz.underlying25 rfl (by kernel_rfl) rfl ?_)
      | (go_at_call 25; refine (awake10_any _).mono ?_; rintro e w1 ⟨rfl, hb1⟩))
    have z0 := D0.size
    have z1 := hb1.size
    have z2 := hb2.size
    have z3 := hb3.size
    have z4 := hb4.size
    have z5 := hb5.size
    have z6 := A6.lt
    have zE := E0.lt
    have D6 : Below w.heap.size w w6 := ((D3.trans (hb4.mono D3.size)).trans (hb5.mono (by omega))).trans (D56.mono (by omega))
    have E6 := ((((E0.below' hb1).below' hb2).below' hb3).below' hb4).below' hb5 |>.below' D56
    have H5 : Holds k x.lay w5 := (hH.below hb4).below hb5
    have NG : ¬ Own k w5.heap.size := H5.fresh (Nat.le_refl _)
    have HKW := Lib.hid (show ∀ z, Own k z → w.heap.size + 1 ≤ z from fun z e => by have := hK z (.inr (.inr e)); omega)
    have NE : ¬ Own k w.heap.size := fun e => by have := HKW.out _ e; omega
    have H6 := H5.below D56
    have OG := Lib.hid (H5.out (Nat.le_refl w5.heap.size))
    have hgw : w.heap.size < w5.heap.size := by omega
    clear hb1 hb2 hb3 hb4 hb5 D56 D0 D2 D3 E0 hH hK H5 O6 z0 z1 z2 z3 z4 z5 zE
    generalize w5.heap.size = g at *
    go_loopg [11] m (fun gg v11 wr => ∃ i : Nat, v11 = .int .i64 i ∧ i + gg = m ∧ ∃ s y, ClnAt x key mode x.sound i s y ∧ Holds k s wr ∧ At wr g 74 y.cells ∧ At wr w.heap.size 25 #[.int .u8 x.fuel, .slice ia x.items.length ic, .slice ca x.calls.length cc] ∧ Below w.heap.size w wr)
    case atStart => exact ⟨0, rfl, by omega, x.lay, Walk.new key mode, cln_start HX.out HL.out.1 key mode, H6, A6, E6, D6⟩
    case round =>
      obtain ⟨i, rfl, hi, s, y, hC, hH, hA, hE, hD⟩ := hrel
      have HC := Lib.hid hC
      have f1 : wr.cell? ⟨w.heap.size, 1, none⟩ = some (.slice ia x.items.length ic) := hE.cell 1
      have hyn : 0 ≤ y.next ∧ y.next ≤ 18446744073709551615 := hC.ends.next
      clear hC A6 E6 D6 H6
      by_cases hlt : i < m
      · have hst := cln_step HX.out HL.out.1 HC.out
        have hws := wstep_any (k := k) (s := s) y wr hH hyn
        generalize s.walkStep y = q at *
        obtain ⟨s2, y2⟩ := q
        have HST := Lib.hid hst
        have HWS := Lib.hid hws
        clear hst hws hyn
        go_wp2_with (first
          | (refine wpl_st rfl 74 _ _ rfl (Walk.cells y2) rfl _ rfl (hA.only hO2 NG) (by kernel_rfl) rfl rfl rfl ?_; intro w4 A4 O4)
          | (go_at_call 30; refine HWS.out.mono ?_; rintro e w2 ⟨rfl, hH2, hO2⟩)
          | (refine wpl_ld rfl 74 _ rfl (Walk.cells y) rfl _ hA Tryz.underlying74 rfl (by kernel_rfl) rfl ?_))
        go_roundg (m - (i + 1))
        case measure => omega
        case rel =>
          have D2 : Below w.heap.size w w2 := hD.trans (hO2.below hD.size fun z hz e => by have := HKW.out z e; omega)
          exact ⟨i + 1, rfl, by omega, s2, y2, HST.out, hH2.but OG.out O4, A4, (hE.only hO2 NE).only O4 (by show ¬ _ = _; omega), D2.trans (O4.below D2.size fun z hz e => by have e' : z = g := e; omega)⟩
      · have e : i = m := by omega
        have hend := cln_end HX.out HL.out.1 HC.out (e.trans HM.out)
        have HEND := Lib.hid hend
        clear hend e
        have hSL : s.chain 0 = s.chain 0 := rfl
        have hcl := chain_len s hH.ok.may 0
        go_wp2_with (go_at_call 35; refine (chain_any 0 wr hH).mono ?_; rintro e wC ⟨vC, rfl, hrow, hbC⟩
                     obtain ⟨ao, cap, rfl, hRA⟩ := row_cells (N := fun z => ¬ Own k z) hrow (fun z hz => hH.fresh hz))
        have hB0 : ClnB k s g ao y w s.steps wC := ⟨hH.below hbC, hA.below' hbC, hRA, hD.trans (hbC.mono hD.size)⟩
        clear hH hA hE hD hbC hRA hrow f1 hSL
        go_loopg [13, 14] (s.chain 0).length (fun gg v13 v14 wr => ∃ i : Nat, v13 = .int .i64 (s.inC key i) ∧ v14 = .int .i64 i ∧ i + gg = (s.chain 0).length ∧ (y.stop = true → i = 0) ∧ ∃ m', ClnB k s g ao y w m' wr)
        case atStart => exact ⟨0, rfl, rfl, by omega, fun _ => rfl, _, hB0⟩
        case round =>
          obtain ⟨i, rfl, rfl, hi2, hi0, m', hB⟩ := hrel
          clear hB0
          by_cases hlt2 : i < (s.chain 0).length
          · cases hys : y.stop with
            | true =>
              have hz := hi0 hys
              subst hz
              have c8 : wr.cell? ⟨g, 8, none⟩ = some (.bool true) := by rw [← hys]; exact hB.walk.cell 8
              have c9 : wr.cell? ⟨g, 9, none⟩ = some (.bool true) := by rw [← HEND.out.1]; exact hB.walk.cell 9
              have h1 : (s.inC key 0 : Int) = 0 := rfl
              have hmb : (mode == 1) = true ∨ (mode == 1) = false := by cases mode == 1 <;> simp
              generalize (s.chain 0).length = ln at *
              cases hsd : x.lay.sound <;> rcases hmb with hmb | hmb
              all_goals go_wp2_with fail
              all_goals (go_ret; exact ⟨rfl, hB.below⟩)
            | false =>
              obtain ⟨hTD, hON⟩ := HEND.out.2 hys
              obtain ⟨n, hn⟩ : ∃ n, (s.chain 0)[i]? = some n := ⟨_, List.getElem?_eq_getElem hlt2⟩
              obtain ⟨gl, hgl, hNg, cn⟩ := hB.row i n hn
              have hB1 := hB
              subst hgl
              have HT := Lib.hid (hTD n (List.mem_of_getElem? hn))
              have HIN := Lib.hid (inC_succ (key := key) hn)
              have HH := Lib.hid hB.holds
              obtain ⟨-, -, g6, lw⟩ := hB.holds.wfacts
              have c8 : wr.cell? ⟨g, 8, none⟩ = some (.bool false) := by rw [← hys]; exact hB.walk.cell 8
              generalize hln : (s.chain 0).length = ln at *
              clear hn hTD
              go_wp2_with fail
              refine wp_region_J (l := [_, _, _, _, _, _, _, _, _, _]) (QG (fun j v => match j with | 0 => v = .pointer (some ⟨k.bw, 0, none⟩) | 1 => v = .pointer (some ⟨k.bw, 0, none⟩) | 2 => v = .pointer (some ⟨k.bw, 6, none⟩) | 3 => v = .pointer (some ⟨k.bb, 0, none⟩) | 4 => v = .slice (some ⟨gl, 0, none⟩) ln cap | 5 => v = .int .i64 i | 6 => v = .pointer (some ⟨gl, i, none⟩) | 7 => v = .int .i64 n | 8 => v = .int .u64 (s.key n) | 9 => v = .int .u64 (s.key n) | _ => True) wr) (by kernel_rfl) (by kernel_rfl) (fun us => QG.start us) ⟨?_, ?_, ?_, ?_, ?_, ?_, ?_, ?_, ?_, ?_, trivial⟩ ?_
              · intro dn us w6 A hev hy hG hdn hdep K hK
                have e0 : A.eval (.tmp 8) = .pointer (some ⟨k.bw, 0, none⟩) := by rw [hev]; rfl
                rw [if_pos (by rfl)]
                unfold Oper.wp execOp
                generalize A.eval = ev at e0 ⊢
                go_simp
                exact hK _ _ (hG.first (by first | rfl | (simp; done) | (simp; omega) | (simp; assumption)))
              · intro dn us w6 A hev hy hG hdn hdep K hK
                have d0 : dn 0 = true := allD_mem hdep (by decide)
                have e0 : A.eval (.tmp 57) = .pointer (some ⟨k.bw, 0, none⟩) := by rw [hev]; exact hG.pre 0 d0
                rw [if_pos (by rfl)]
                unfold Oper.wp execOp
                generalize A.eval = ev at e0 ⊢
                go_simp
                exact hK _ _ (hG.first (by first | rfl | (simp; done) | (simp; omega) | (simp; assumption)))
              · intro dn us w6 A hev hy hG hdn hdep K hK
                have d1 : dn 1 = true := allD_mem hdep (by decide)
                have e0 : A.eval (.tmp 58) = .pointer (some ⟨k.bw, 0, none⟩) := by rw [hev]; exact hG.pre 1 d1
                rw [if_pos (by rfl)]
                unfold Oper.wp execOp
                generalize A.eval = ev at e0 ⊢
                go_simp
                exact hK _ _ (hG.first (by first | rfl | (simp; done) | (simp; omega) | (simp; assumption)))
              · intro dn us w6 A hev hy hG hdn hdep K hK
                have d2 : dn 2 = true := allD_mem hdep (by decide)
                have e0 : A.eval (.tmp 59) = .pointer (some ⟨k.bw, 6, none⟩) := by rw [hev]; exact hG.pre 2 d2
                have cg6 : w6.cell? ⟨k.bw, 6, none⟩ = some (.pointer (some ⟨k.bb, 0, none⟩)) := by rw [(hG.below).cell (World.block_lt_of_cell? _ _ g6)]; exact g6
                rw [if_pos (by rfl)]
                unfold Oper.wp execOp
                generalize A.eval = ev at e0 ⊢
                go_simp
                exact hK _ _ (hG.first (by first | rfl | (simp; done) | (simp; omega) | (simp; assumption)))
              · intro dn us w6 A hev hy hG hdn hdep K hK
                have e0 : A.eval (.tmp 12) = .slice (some ⟨gl, 0, none⟩) ln cap := by rw [hev]; rfl
                rw [if_pos (by rfl)]
                unfold Oper.wp execOp
                generalize A.eval = ev at e0 ⊢
                go_simp
                exact hK _ _ (hG.first (by first | rfl | (simp; done) | (simp; omega) | (simp; assumption)))
              · intro dn us w6 A hev hy hG hdn hdep K hK
                have e0 : A.eval (.tmp 14) = .int .i64 i := by rw [hev]; rfl
                rw [if_pos (by rfl)]
                unfold Oper.wp execOp
                generalize A.eval = ev at e0 ⊢
                go_simp
                exact hK _ _ (hG.first (by first | rfl | (simp; done) | (simp; omega) | (simp; assumption)))
              · intro dn us w6 A hev hy hG hdn hdep K hK
                have d4 : dn 4 = true := allD_mem hdep (by decide)
                have d5 : dn 5 = true := allD_mem hdep (by decide)
                have e0 : A.eval (.tmp 61) = .slice (some ⟨gl, 0, none⟩) ln cap := by rw [hev]; exact hG.pre 4 d4
                have e1 : A.eval (.tmp 62) = .int .i64 i := by rw [hev]; exact hG.pre 5 d5
                rw [if_pos (by rfl)]
                unfold Oper.wp execOp
                generalize A.eval = ev at e0 e1 ⊢
                go_simp
                exact hK _ _ (hG.first (by first | rfl | (simp; done) | (simp; omega) | (simp; assumption)))
              · intro dn us w6 A hev hy hG hdn hdep K hK
                have d6 : dn 6 = true := allD_mem hdep (by decide)
                have e0 : A.eval (.tmp 63) = .pointer (some ⟨gl, i, none⟩) := by rw [hev]; exact hG.pre 6 d6
                have ccn : w6.cell? ⟨gl, i, none⟩ = some (.int .i64 n) := by rw [(hG.below).cell (World.block_lt_of_cell? _ _ cn)]; exact cn
                rw [if_pos (by rfl)]
                unfold Oper.wp execOp
                generalize A.eval = ev at e0 ⊢
                go_simp
                exact hK _ _ (hG.first (by first | rfl | (simp; done) | (simp; omega) | (simp; assumption)))
              · intro dn us w6 A hev hy hG hdn hdep K hK
                have d3 : dn 3 = true := allD_mem hdep (by decide)
                have d7 : dn 7 = true := allD_mem hdep (by decide)
                have e0 : A.eval (.tmp 60) = .pointer (some ⟨k.bb, 0, none⟩) := by rw [hev]; exact hG.pre 3 d3
                have e1 : A.eval (.tmp 64) = .int .i64 n := by rw [hev]; exact hG.pre 7 d7
                have ef : A.eval (.func 36) = .func (.func 36) #[] #[] := by rw [hev]; rfl
                rw [if_pos (by rfl)]
                unfold Oper.wp execOp
                generalize A.eval = ev at e0 e1 ef ⊢
                go_simp
                refine (key_any n _ (HH.out.below hG.below)).mono ?_
                rintro e wq ⟨rfl, hb⟩
                exact hK _ _ (hG.called rfl hb)
              · intro dn us w6 A hev hy hG hdn hdep K hK
                have d8 : dn 8 = true := allD_mem hdep (by decide)
                have e0 : A.eval (.tmp 65) = .int .u64 (s.key n) := by rw [hev]; exact hG.pre 8 d8
                rw [if_pos (by rfl)]
                unfold Oper.wp execOp
                generalize A.eval = ev at e0 ⊢
                go_simp
                exact hK _ _ (hG.first (by first | rfl | (simp; done) | (simp; omega) | (simp; assumption)))
              intro dn us wA hG hall
              have u9 : us 9 = .int .u64 (s.key n) := hG.pre 9 (hall 9 (by decide))
              have DA := hG.below
              simp only [fillA, fillT, Nat.reduceAdd, List.setIfInBounds_toArray, List.set_cons_zero, List.set_cons_succ, u9]
              clear hG hall u9
              have hA' := hB.still DA
              have HA := Lib.hid hA'.holds
              have cn' : wA.cell? ⟨gl, i, none⟩ = some (.int .i64 n) := by rw [DA.cell (World.block_lt_of_cell? _ _ cn)]; exact cn
              have g6' : wA.cell? ⟨k.bw, 6, none⟩ = some (.pointer (some ⟨k.bb, 0, none⟩)) := by rw [DA.cell (World.block_lt_of_cell? _ _ g6)]; exact g6
              clear cn g6 hB hB1 HH c8 lw DA
              have cn := cn'
              have g6 := g6'
              clear cn' g6'
              go_wp2_with fail
              refine wp_region_C (l := [_, _, _, _, _, _, _, _, _, _, _, _]) (TG 10 11 [4, 8, 9] (fun j v => match j with | 0 => v = .pointer (some ⟨k.bw, 0, none⟩) | 1 => v = .pointer (some ⟨k.bw, 0, none⟩) | 2 => v = .pointer (some ⟨k.bw, 0, none⟩) | 3 => v = .pointer (some ⟨k.bw, 6, none⟩) | 4 => v = .pointer (some ⟨k.bb, 0, none⟩) | 5 => v = .slice (some ⟨gl, 0, none⟩) ln cap | 6 => v = .int .i64 i | 7 => v = .pointer (some ⟨gl, i, none⟩) | 8 => v = .int .i64 n | 9 => v = .int .i64 (s.carried n) | 10 => v = (.int .u64 (s.peek (s.wordAt (s.carried n)))) | 11 => v = (.int .u64 (s.peek (s.wordAt (s.carried n)))) | _ => True) wA (fun w' => Holds k ((s.ats m').load (s.wordAt (s.carried n))) w' ∧ Only (Own k) wA w') (fun w' => Holds k ((s.ats m').load (s.wordAt (s.carried n))) w' ∧ Only (Own k) wA w')) (by kernel_rfl) (by kernel_rfl) (fun us => TG.start us) ⟨?_, ?_, ?_, ?_, ?_, ?_, ?_, ?_, ?_, ?_, ?_, ?_, trivial⟩ ?_
              · intro dn us w6 A hev hy hG hcl hdn hdep K hK
                have e0 : A.eval (.tmp 8) = .pointer (some ⟨k.bw, 0, none⟩) := by rw [hev]; rfl
                rw [if_pos (by rfl)]
                unfold Oper.wp execOp
                generalize A.eval = ev at e0 ⊢
                go_simp
                exact hK _ _ (hG.pure (by decide) (by decide) (by first | rfl | (simp; done) | (simp; omega) | (simp; assumption)))
              · intro dn us w6 A hev hy hG hcl hdn hdep K hK
                have e0 : A.eval (.tmp 8) = .pointer (some ⟨k.bw, 0, none⟩) := by rw [hev]; rfl
                rw [if_pos (by rfl)]
                unfold Oper.wp execOp
                generalize A.eval = ev at e0 ⊢
                go_simp
                exact hK _ _ (hG.pure (by decide) (by decide) (by first | rfl | (simp; done) | (simp; omega) | (simp; assumption)))
              · intro dn us w6 A hev hy hG hcl hdn hdep K hK
                have d1 : dn 1 = true := allD_mem hdep (by decide)
                have e0 : A.eval (.tmp 67) = .pointer (some ⟨k.bw, 0, none⟩) := by rw [hev]; exact hG.pre 1 d1
                rw [if_pos (by rfl)]
                unfold Oper.wp execOp
                generalize A.eval = ev at e0 ⊢
                go_simp
                exact hK _ _ (hG.pure (by decide) (by decide) (by first | rfl | (simp; done) | (simp; omega) | (simp; assumption)))
              · intro dn us w6 A hev hy hG hcl hdn hdep K hK
                have d2 : dn 2 = true := allD_mem hdep (by decide)
                have e0 : A.eval (.tmp 68) = .pointer (some ⟨k.bw, 0, none⟩) := by rw [hev]; exact hG.pre 2 d2
                rw [if_pos (by rfl)]
                unfold Oper.wp execOp
                generalize A.eval = ev at e0 ⊢
                go_simp
                exact hK _ _ (hG.pure (by decide) (by decide) (by first | rfl | (simp; done) | (simp; omega) | (simp; assumption)))
              · intro dn us w6 A hev hy hG hcl hdn hdep K hK
                have d3 : dn 3 = true := allD_mem hdep (by decide)
                have e0 : A.eval (.tmp 69) = .pointer (some ⟨k.bw, 6, none⟩) := by rw [hev]; exact hG.pre 3 d3
                have hb6 := hG.ph0 (hG.not1 hdn (by decide))
                have cg6 : w6.cell? ⟨k.bw, 6, none⟩ = some (.pointer (some ⟨k.bb, 0, none⟩)) := by rw [(hb6).cell (World.block_lt_of_cell? _ _ g6)]; exact g6
                rw [if_pos (by rfl)]
                unfold Oper.wp execOp
                generalize A.eval = ev at e0 ⊢
                go_simp
                exact hK _ _ (hG.pure (by decide) (by decide) (by first | rfl | (simp; done) | (simp; omega) | (simp; assumption)))
              · intro dn us w6 A hev hy hG hcl hdn hdep K hK
                have e0 : A.eval (.tmp 12) = .slice (some ⟨gl, 0, none⟩) ln cap := by rw [hev]; rfl
                rw [if_pos (by rfl)]
                unfold Oper.wp execOp
                generalize A.eval = ev at e0 ⊢
                go_simp
                exact hK _ _ (hG.pure (by decide) (by decide) (by first | rfl | (simp; done) | (simp; omega) | (simp; assumption)))
              · intro dn us w6 A hev hy hG hcl hdn hdep K hK
                have e0 : A.eval (.tmp 14) = .int .i64 i := by rw [hev]; rfl
                rw [if_pos (by rfl)]
                unfold Oper.wp execOp
                generalize A.eval = ev at e0 ⊢
                go_simp
                exact hK _ _ (hG.pure (by decide) (by decide) (by first | rfl | (simp; done) | (simp; omega) | (simp; assumption)))
              · intro dn us w6 A hev hy hG hcl hdn hdep K hK
                have d5 : dn 5 = true := allD_mem hdep (by decide)
                have d6 : dn 6 = true := allD_mem hdep (by decide)
                have e0 : A.eval (.tmp 71) = .slice (some ⟨gl, 0, none⟩) ln cap := by rw [hev]; exact hG.pre 5 d5
                have e1 : A.eval (.tmp 72) = .int .i64 i := by rw [hev]; exact hG.pre 6 d6
                rw [if_pos (by rfl)]
                unfold Oper.wp execOp
                generalize A.eval = ev at e0 e1 ⊢
                go_simp
                exact hK _ _ (hG.pure (by decide) (by decide) (by first | rfl | (simp; done) | (simp; omega) | (simp; assumption)))
              · intro dn us w6 A hev hy hG hcl hdn hdep K hK
                have d7 : dn 7 = true := allD_mem hdep (by decide)
                have e0 : A.eval (.tmp 73) = .pointer (some ⟨gl, i, none⟩) := by rw [hev]; exact hG.pre 7 d7
                have hb6 := hG.ph0 (hG.not1 hdn (by decide))
                have ccn : w6.cell? ⟨gl, i, none⟩ = some (.int .i64 n) := by rw [(hb6).cell (World.block_lt_of_cell? _ _ cn)]; exact cn
                rw [if_pos (by rfl)]
                unfold Oper.wp execOp
                generalize A.eval = ev at e0 ⊢
                go_simp
                exact hK _ _ (hG.pure (by decide) (by decide) (by first | rfl | (simp; done) | (simp; omega) | (simp; assumption)))
              · intro dn us w6 A hev hy hG hcl hdn hdep K hK
                have d4 : dn 4 = true := allD_mem hdep (by decide)
                have d8 : dn 8 = true := allD_mem hdep (by decide)
                have e0 : A.eval (.tmp 70) = .pointer (some ⟨k.bb, 0, none⟩) := by rw [hev]; exact hG.pre 4 d4
                have e1 : A.eval (.tmp 74) = .int .i64 n := by rw [hev]; exact hG.pre 8 d8
                have ef : A.eval (.func 38) = .func (.func 38) #[] #[] := by rw [hev]; rfl
                have hb6 := hG.ph0 (hG.not1 hdn (by decide))
                rw [if_pos (by rfl)]
                unfold Oper.wp execOp
                generalize A.eval = ev at e0 e1 ef ⊢
                go_simp
                refine (carried_any n w6 (HA.out.below hb6)).mono ?_
                rintro e wq ⟨rfl, rfl⟩
                exact hK _ _ (hG.quiet (hG.not1 hdn (by decide)) (by decide) (by decide) rfl (Below.refl _ _))
              · intro dn us w6 A hev hy hG hcl hdn hdep K hK
                have d0 : dn 0 = true := allD_mem hdep (by decide)
                have d9 : dn 9 = true := allD_mem hdep (by decide)
                have d4 : dn 4 = true := allD_mem (hcl 9 d9) (by decide)
                have d8 : dn 8 = true := allD_mem (hcl 9 d9) (by decide)
                have e0 : A.eval (.tmp 66) = .pointer (some ⟨k.bw, 0, none⟩) := by rw [hev]; exact hG.pre 0 d0
                have e1 : A.eval (.tmp 75) = .int .i64 (s.carried n) := by rw [hev]; exact hG.pre 9 d9
                have ef : A.eval (.func 37) = .func (.func 37) #[] #[] := by rw [hev]; rfl
                have hb6 := hG.ph0 hdn
                rw [if_pos (by rfl)]
                unfold Oper.wp execOp
                generalize A.eval = ev at e0 e1 ef ⊢
                go_simp
                refine (wword_any (s.carried n) w6 (HA.out.below hb6)).mono ?_
                rintro e wq ⟨rfl, hH, hO⟩
                exact hK _ _ (hG.turn1 hdn (by decide) (by intro j hj; simp at hj; rcases hj with rfl | rfl | rfl <;> assumption) rfl ⟨hH, (Only.ofBelow _ hb6).trans hO⟩)
              · intro dn us w6 A hev hy hG hcl hdn hdep K hK
                have d10 : dn 10 = true := allD_mem hdep (by decide)
                have e0 : A.eval (.tmp 76) = (.int .u64 (s.peek (s.wordAt (s.carried n)))) := by rw [hev]; exact hG.pre 10 d10
                rw [if_pos (by rfl)]
                unfold Oper.wp execOp
                generalize A.eval = ev at e0 ⊢
                go_simp
                exact hK _ _ (hG.turn2 d10 (by decide) rfl (hG.ph1 d10 hdn))
              intro dn us wB hG hall
              have u11 : us 11 = .int .u64 (s.peek (s.wordAt (s.carried n))) := hG.pre 11 (hall 11 (by decide))
              obtain ⟨hHB, hOB⟩ := hG.ph2 (hall 11 (by decide))
              simp only [fillA, fillT, Nat.reduceAdd, List.setIfInBounds_toArray, List.set_cons_zero, List.set_cons_succ, u11]
              clear hG hall u11
              have hBB := hA'.only hHB hOB NG HKW.out
              have cn' : wB.cell? ⟨gl, i, none⟩ = some (.int .i64 n) := cell_only cn hOB hNg
              clear cn g6 hA' HA hHB hOB
              have HB := Lib.hid hBB
              have cn := cn'
              clear cn' hBB
              generalize hv : s.peek (s.wordAt (s.carried n)) = v at *
              generalize hr : s.peek (s.nextAt n) = r at *
              have hnx : Calls Tryz.prog 39 #[.pointer (some ⟨k.bw, 0, none⟩), .int .i64 n] wB fun e w' => e = .returned (.int .u64 r) ∧ (∃ m2, Holds k (s.ats m2) w') ∧ Only (Own k) wB w' := by
                rw [← hr]
                exact (wnext_any n wB HB.out.holds).mono fun e w' h => ⟨h.1, ⟨_, h.2.1⟩, h.2.2⟩
              have HNX := Lib.hid hnx
              have htm : r.tmod 2 = r % 2 := Int.tmod_eq_emod_of_nonneg (by rw [← hr]; exact (peek_range HB.out.holds.ok _).1)
              have hT : (s.key n ≤ key → v ≤ 1 ∧ r % 2 ≠ 1) ∧ (s.key n = key → mode = 1 → v ≠ 0) := by
                have h := HT.out
                unfold Tidy at h
                rw [hv, hr] at h
                exact ⟨fun a => ⟨by omega, by omega⟩, fun a b c => h (.inr ⟨a, b, c⟩)⟩
              have hI : (s.inC key (i + 1) : Int) = (s.inC key i : Int) + if s.key n = key ∧ v = 1 then 1 else 0 := by
                have h := HIN.out
                unfold St.inB at h
                rw [hv] at h
                rw [h]
                by_cases q : s.key n = key ∧ v = 1
                · rw [if_pos q, if_pos (by simpa using q)]; rfl
                · rw [if_neg q, if_neg (by simpa using q)]; rfl
              have hIc : s.inC key i ≤ 100000 := by
                have h1 := inC_le s key i
                have h2 : (s.chain 0).countP (s.inB key) ≤ (s.chain 0).length := List.countP_le_length
                omega
              have HTI := Lib.hid (And.intro hT (And.intro hI (And.intro htm hIc)))
              clear hT hI htm hIc hv hr
              have hmb : (mode == 1) = true ∨ (mode == 1) = false := by cases mode == 1 <;> simp
              rcases hmb with hmb | hmb
              all_goals clear hnx
              all_goals (go_wp2_with (go_at_call 39; refine HNX.out.mono ?_; rintro e wD ⟨rfl, ⟨m2, hHD⟩, hOD⟩))
              all_goals obtain ⟨hT, hI, htm, hIc⟩ := HTI.out
              all_goals first
                | (exfalso; simp only [beq_iff_eq, beq_eq_false_iff_ne, ne_eq] at *; omega)
                | (go_roundg (ln - (i + 1))
                   case measure => omega
                   case rel =>
                     refine ⟨i + 1, ?_, rfl, by omega, fun e => (by rw [hys] at e; cases e), m2, HB.out.only hHD hOD NG HKW.out⟩
                     rw [hI]
                     first
                       | (rw [if_pos (by simp only [beq_iff_eq] at *; omega), wrap64_in9 (by omega) (by omega)])
                       | (rw [if_neg (by simp only [beq_iff_eq, beq_eq_false_iff_ne, ne_eq] at *; omega), Int.add_zero]))
          · have hii : i = (s.chain 0).length := by omega
            have c9 : wr.cell? ⟨g, 9, none⟩ = some (.bool true) := by rw [← HEND.out.1]; exact hB.walk.cell 9
            have hfin : mode = 1 → x.lay.sound = true → (s.inC key i : Int) ≤ 1 := by
              intro a b
              cases hys : y.stop with
              | true => rw [hi0 hys]; show ((0 : Nat) : Int) ≤ 1; decide
              | false =>
                have := (HEND.out.2 hys).2 a (HSD.out.1 b)
                have := inC_le s key i
                omega
            have hmb : (mode == 1) = true ∨ (mode == 1) = false := by cases mode == 1 <;> simp
            have c8 : wr.cell? ⟨g, 8, none⟩ = some (.bool y.stop) := hB.walk.cell 8
            generalize (s.chain 0).length = ln at *
            cases hsd : x.lay.sound with
            | false =>
              rcases hmb with hmb | hmb
              all_goals go_wp2_with fail
              all_goals (go_ret; exact ⟨rfl, hB.below⟩)
            | true =>
              rcases hmb with hmb | hmb
              · have h1 := hfin (by simpa using hmb) hsd
                go_wp2_with fail
                all_goals go_ret
                all_goals first
                  | exact ⟨rfl, hB.below⟩
                  | (refine ⟨?_, hB.below⟩; exact congrArg (fun b => Ending.returned (.bool b)) (decide_eq_true (by rw [← hii]; exact h1)))
              · go_wp2_with fail
                all_goals go_ret
                all_goals first
                  | exact ⟨rfl, hB.below⟩
                  | (exfalso; simp at hmb; done)
                  | (exfalso; simp at hmb; omega)
end Go.Proofs.YtccmjljlfgbicaaGreat

/- A world where all is as it may be: its chain, that it is sound, its pairs. Plain. -/
namespace Go.Proofs.YtccmjljlfgbicaaGreat
open Go.ChangeShapes Go.WideShapes Go.ChangeAt Go.RowKit

theorem pigeon : ∀ (n : Nat) (L : List Int), L.Nodup → (∀ a ∈ L, 0 ≤ a ∧ a < (n : Int)) → L.length ≤ n
  | 0, L, _, h => by
    cases L with
    | nil => exact Nat.le_refl _
    | cons a l => have := h a (.head _); omega
  | n + 1, L, hn, h => by
    by_cases hm : (n : Int) ∈ L
    · have h1 := pigeon n (L.erase (n : Int)) (hn.erase _) fun a ha => by
        have h2 := h a (List.mem_of_mem_erase ha)
        have h3 : a ≠ (n : Int) := fun e => by
          rw [e] at ha
          exact (hn.not_mem_erase) ha
        omega
      rw [List.length_erase_of_mem hm] at h1
      omega
    · have h1 := pigeon n L hn fun a ha => by
        have h2 := h a ha
        have h3 : a ≠ (n : Int) := fun e => hm (e ▸ ha)
        omega
      omega
theorem behind_vpath {s : St} : ∀ {L : List Int} {n : Int} (m : Nat), VPath s.vw n L → L.length ≤ m → s.behind m n = L
  | [], n, 0, _, _ => rfl
  | [], n, m + 1, h, _ => by
    have e : s.follow n = 0 := h
    unfold St.behind
    rw [if_pos e]
  | a :: L, n, 0, _, hl => by simp at hl
  | a :: L, n, m + 1, h, hl => by
    have e : s.follow n = a := h.1
    unfold St.behind
    rw [e, if_neg h.2.1, behind_vpath m h.2.2 (by simp only [List.length_cons] at hl; omega)]
/-- The keys of a book are no less than none. -/
theorem call_fits {s : St} (hok : s.ok) (o : Int) : (s.call o).fits := by
  unfold St.call St.callOf
  cases h : look1 s.ops o with
  | none => exact ⟨by decide, by decide, by decide, by decide⟩
  | some c => exact (hok.ops _ (look1_mem h)).1
theorem key_range {s : St} (hok : s.ok) (n : Int) : 0 ≤ s.key n ∧ s.key n ≤ 18446744073709551615 := by
  have h := call_fits hok (s.carried n)
  exact ⟨h.1, h.2.1⟩

/-- The chain of a world of one bucket. -/
structure Sees (s : St) (g : Gh) (L : List Int) : Prop where
  chain : s.chain 0 = L
  path : VPath s.vw 1 L
  nd : ∀ m ∈ L, Nd s.vw g 0 m
  srt : L.Pairwise (Lt s.vw g)
  un : ∀ m, Nd s.vw g 0 m → ¬ s.vw.mkd m → m ∈ L
section
variable {s : St} {g : Gh}
theorem inv_sees (hok : s.ok) (hb : s.c.buckets = 1) (I : Inv s.vw g) : ∃ L, Sees s g L := by
  have hb' : s.vw.nb = 1 := hb
  obtain ⟨L, h1, h2⟩ := I.chain 0 (Int.le_refl 0) (by rw [hb']; decide)
  obtain ⟨h3, h4⟩ := path_facts I (b := 0) (.inl ⟨rfl, Int.le_refl 0, by rw [hb']; decide⟩) h1
  have hnd : L.Nodup := h4.imp fun {a b} h e => by rw [e] at h; exact h.irrefl
  have hln : L.length ≤ s.c.nodes.toNat := pigeon _ _ hnd fun a ha => by
    have := lk_range hok I (h3 a ha).1.1
    omega
  have hh : s.headAt 0 = 1 := by unfold St.headAt; rw [hb]; rfl
  refine ⟨L, ?_, h1, fun m hm => (h3 m hm).1, h4, h2⟩
  unfold St.chain
  rw [hh, if_neg (by decide)]
  exact behind_vpath _ h1 hln
theorem inv_sound (hok : s.ok) (hb : s.c.buckets = 1) (I : Inv s.vw g) (hd : g.sd = true) : s.sound = true := by
  obtain ⟨L, h⟩ := inv_sees hok hb I
  rw [St.sound_one hb]
  unfold St.sound1
  rw [h.chain]
  exact sndRun_of_inv I hd (fun n _ => (key_range hok n).1) h.nd h.srt h.un L [] _ rfl (sndAt_nil _)
theorem inv_prs (hok : s.ok) (hb : s.c.buckets = 1) (I : Inv s.vw g) (hd : g.sd = true) : Rising s.prs ∧ ∀ p, p ∈ s.prs ↔ ∃ o, s.vw.inn o ∧ p = (s.vw.ky o, s.vl o) := by
  obtain ⟨L, h⟩ := inv_sees hok hb I
  have hr := prs_rising (vl := s.vl) I hd (B := L) (once := []) (fun m hm => (h.nd m hm).1) h.srt
  have e : s.prs = s.vw.prsRun s.vl [] L := by
    unfold St.prs
    rw [h.chain, isort_rising hr]
  rw [e]
  refine ⟨hr, fun p => ?_⟩
  rw [prs_iff I hd h.nd h.un]
  have hk : ∀ k, s.vw.bk k = 0 := fun k => by
    show bucketOf k s.c.buckets = 0
    rw [hb]; exact bucket_one k
  constructor
  · rintro ⟨o, a, _, b⟩; exact ⟨o, a, b⟩
  · rintro ⟨o, a, b⟩; exact ⟨o, a, hk _, b⟩
end
end Go.Proofs.YtccmjljlfgbicaaGreat

/- WalkSound, the plain law: a walk in a sound world that nobody disturbs leaves a sound one, and all pairs but those of its key. Plain. -/
namespace Go.Proofs.YtccmjljlfgbicaaGreat
open Go.ChangeShapes Go.WideShapes Go.ChangeAt Go.RowKit

/-- The pairs of other keys. -/
def othersL (l : List (Int × Int)) (key : Int) : List (Int × Int) := l.filter fun p => p.1 != key
section
variable {x : Scene} {key mode : Int} {i : Nat} {s : St} {y : Walk}
theorem cln_buckets (hx : x.fits) (hlen : x.items.length ≤ 12) (h : ClnAt x key mode x.sound i s y) : s.c.buckets = 1 := by rw [h.c, (lay_path hx hlen).2.1]; rfl
theorem cln_sound (hx : x.fits) (hlen : x.items.length ≤ 12) (h : ClnAt x key mode x.sound i s y) (hs : x.sound) : s.sound = true := by
  obtain ⟨g, t, I, hg, _⟩ := h.inv hs
  exact inv_sound h.ok (cln_buckets hx hlen h) I hg
theorem cln_chain (hx : x.fits) (hlen : x.items.length ≤ 12) (h : ClnAt x key mode x.sound i s y) : (s.chain 0).length ≤ 12 := by
  have hb := cln_buckets hx hlen h
  rcases h.at_ with ⟨_, rfl, _⟩ | ⟨_, hr⟩
  · rw [lay_chain hx hlen, laidL_len]; exact hlen
  · obtain ⟨L, h1, h2, h3⟩ := hr.chn
    have hnn : s.c.nodes = 98 := by rw [h.c, (lay_path hx hlen).2.1]; exact conf_nodes hx.fuel
    rw [chain_path hb h1 h3 (by rw [hnn]; omega) (by rw [hnn]; decide)]
    exact h2
theorem cln_pairs (hx : x.fits) (hlen : x.items.length ≤ 12) (h : ClnAt x key mode x.sound i s y) (hs : x.sound) : othersL x.lay.prs key = othersL s.prs key ∧ (mode ≠ 1 → x.lay.prs = s.prs) := by
  have hb := cln_buckets hx hlen h
  have hb0 : x.lay.c.buckets = 1 := by rw [(lay_path hx hlen).2.1]; rfl
  obtain ⟨g, t, I, hg, _⟩ := h.inv hs
  obtain ⟨r1, m1⟩ := inv_prs h.ok hb I hg
  obtain ⟨r0, m0⟩ := inv_prs (lay_path hx hlen).1 hb0 (lay_inv hx hlen hs) rfl
  have hcall : ∀ o, s.call o = x.lay.call o := fun o => by unfold St.call St.callOf; rw [h.ops]
  have hky : ∀ o, s.vw.ky o = x.lay.vw.ky o := fun o => by show (s.call o).key = _; rw [hcall]; rfl
  have hkd : ∀ o, s.vw.kd o = x.lay.vw.kd o := fun o => by show (s.call o).kind = _; rw [hcall]; rfl
  have hvl : ∀ o, s.vl o = x.lay.vl o := fun o => by unfold St.vl; rw [hcall]
  have same : ∀ o, (mode ≠ 1 ∨ x.lay.vw.ky o ≠ key) → (s.vw.inn o ↔ x.lay.vw.inn o) := by
    intro o hne
    rcases h.wd o with q | ⟨q1, q2⟩
    · unfold Vw.inn; rw [q, hkd]
    · rcases hne with e | e
      · exact (e q1).elim
      · exact (e q2).elim
  constructor
  · refine rising_ext (r0.sublist List.filter_sublist) (r1.sublist List.filter_sublist) fun p => ?_
    unfold othersL
    rw [List.mem_filter, List.mem_filter, m0, m1]
    constructor
    · rintro ⟨⟨o, a, rfl⟩, hne⟩
      have hne' : x.lay.vw.ky o ≠ key := by simpa using hne
      exact ⟨⟨o, (same o (.inr hne')).2 a, by rw [hky, hvl]⟩, hne⟩
    · rintro ⟨⟨o, a, rfl⟩, hne⟩
      rw [hky] at hne
      have hne' : x.lay.vw.ky o ≠ key := by simpa using hne
      exact ⟨⟨o, (same o (.inr hne')).1 a, by rw [hky, hvl]⟩, by rw [hky]; exact hne⟩
  · intro hm
    refine rising_ext r0 r1 fun p => ?_
    rw [m0, m1]
    constructor
    · rintro ⟨o, a, rfl⟩
      exact ⟨o, (same o (.inl hm)).2 a, by rw [hky, hvl]⟩
    · rintro ⟨o, a, rfl⟩
      exact ⟨o, (same o (.inl hm)).1 a, by rw [hky, hvl]⟩
end
end Go.Proofs.YtccmjljlfgbicaaGreat

/- Contract of corrielaw10.others. -/
namespace Go.Proofs.YtccmjljlfgbicaaGreat
open Go.ChangeShapes Go.WideShapes Go.ChangeAt Go.RowKit

theorem pairinfoO : (Tryz.prog.info? 103).map (fun i => (i.zero, i.size, i.bytes)) = some (some (.agg #[.int .u64 0, .int .u64 0]), 2, 16) := by kernel_rfl
theorem others_next {l : List (Int × Int)} {i : Nat} {p : Int × Int} {key : Int} (h : l[i]? = some p) : othersL (l.take (i + 1)) key = othersL (l.take i) key ++ if p.1 = key then [] else [p] := by
  unfold othersL
  rw [List.take_add_one, h, List.filter_append]
  congr 1
  by_cases e : p.1 = key
  · rw [if_pos e]; simp [e]
  · rw [if_neg e]; simp [e]
/-- A row that one owns grew. -/
theorem grown_row {w w0 w1 w2 : World} {e : TypeId} {size n : Nat} {v : Value} {xs : List Value} (h : Below w.heap.size w w1) (R : w0.ownsRow w.heap.size e size v n xs) (hg : w1.grownBy w2 v.ownBlock) : Below w.heap.size w w2 := by
  rcases R.2 with ⟨rfl, _⟩ | ⟨g, cap, cur, rfl, h2, _⟩
  · exact ⟨hg.os.trans h.os, hg.tape.trans h.tape, hg.output.trans h.output, Nat.le_trans h.size hg.size, fun i hi => (hg.block i (by have := h.size; omega) (by intro e; cases e)).trans (h.block i hi)⟩
  · exact grown_below h hg h2 h.size
/-- What is known at the head of each round. -/
structure OthAt (w : World) (l : List (Int × Int)) (key : Int) (i : Nat) (v : Value) (wr : World) : Prop where
  row : wr.ownsRow w.heap.size 103 2 v (othersL (l.take i) key).length (pairsV (othersL (l.take i) key))
  below : Below w.heap.size w wr

set_option maxRecDepth 100000 in
set_option maxHeartbeats 4000000 in
theorem others_any {l : List (Int × Int)} {N : Nat → Prop} {v : Value} (key : Int) (w : World) (hp : PairsIn w N v l) (hl : l.length ≤ 1000) :
    Calls Tryz.prog 53 #[v, .int .u64 key] w fun e w' => ∃ u, e = .returned u ∧ w'.ownsRow w.heap.size 103 2 u (othersL l key).length (pairsV (othersL l key)) ∧ Below w.heap.size w w' := by
  obtain ⟨ao, cap, rfl⟩ := hp.form
  have HP := Lib.hid hp
  obtain ⟨i0, hi0, hz0, hz1, hz2⟩ := info_parts pairinfoO
  obtain ⟨n, hn⟩ : ∃ n, n = l.length := ⟨_, rfl⟩
  have HN := Lib.hid hn
  rw [← hn] at hl ⊢
  clear hp hn
  go_enter Tryz.func53, Tryz.ntmps53
  go_wp2_with fail
  go_loopg [5, 6] n (fun gg v5 v6 wr => ∃ i : Nat, v6 = .int .i64 i ∧ i + gg = n ∧ OthAt w l key i v5 wr)
  case atStart => exact ⟨0, rfl, by omega, World.ownsRow_nil _ _ _ _, Below.refl _ _⟩
  case round =>
    obtain ⟨i, rfl, hi, hO⟩ := hrel
    have HO := Lib.hid hO
    by_cases hlt : i < n
    · obtain ⟨p, hpi⟩ : ∃ p, l[i]? = some p := ⟨_, List.getElem?_eq_getElem (by rw [← HN.out]; exact hlt)⟩
      obtain ⟨b, o, rfl, _, c0, c1⟩ := (HP.out.below hO.below).at_ hpi
      have HNX := Lib.hid (others_next (key := key) hpi)
      have hln : (othersL (l.take i) key).length ≤ 1000 := by
        have h1 : (othersL (l.take i) key).length ≤ (l.take i).length := List.length_filter_le _ _
        rw [List.length_take] at h1
        omega
      generalize hol : othersL (l.take i) key = ol at *
      clear hpi hO
      by_cases hk : p.1 = key
      · have hkb : (p.1 != key) = false := by rw [hk]; simp
        go_wp2_with fail
        go_roundg (n - (i + 1))
        case measure => omega
        case rel =>
          refine ⟨i + 1, rfl, by omega, ?_, HO.out.below⟩
          rw [HNX.out, if_pos hk, List.append_nil, ← hol]
          exact HO.out.row
      · have hkb : (p.1 != key) = true := by simpa using hk
        have R := HO.out.row
        rw [hol] at R
        go_wp2_with (at_builtin; refine wpList_append_own _ rfl (.tmp 20) (.tmp 25) 49 rfl w.heap.size 103 i0 (.agg #[.int .u64 0, .int .u64 0]) 2 16 Tryz.underlying49 hi0 hz0 hz1 hz2 rfl (by decide) _ ol.length _ rfl (ownsRow_below R ((Below.refl _ _).alloc (Nat.le_refl _) _) rfl) ⟨wr.heap.size, 0, none⟩ 1 1 [.int .u64 p.1, .int .u64 p.2] rfl rfl ?c1 ?c2 ?c3 ?c4 ?c5 ?next)
        case c1 =>
          intro j u hu
          match j, hu with
          | 0, hu => cases hu; exact (At.new wr 103 #[.int .u64 p.1, .int .u64 p.2]).cell 0
          | 1, hu => cases hu; exact (At.new wr 103 #[.int .u64 p.1, .int .u64 p.2]).cell 1
          | j + 2, hu => simp at hu
        case c2 =>
          intro u hu
          simp only [List.mem_cons, List.not_mem_nil, or_false] at hu
          rcases hu with rfl | rfl <;> rfl
        case c3 => unfold maxLen; omega
        case c4 => omega
        case c5 => have := HO.out.below.size; simp; omega
        case next =>
          intro v2 w8 hR2 hg2 _
          have hB8 : Below w.heap.size w w8 := grown_row ((HO.out.below.trans (((Below.refl _ wr).alloc (Nat.le_refl _) _).mono HO.out.below.size))) R hg2
          go_wp2_with fail
          go_roundg (n - (i + 1))
          case measure => omega
          case rel =>
            refine ⟨i + 1, rfl, by omega, ?_, hB8⟩
            rw [HNX.out, if_neg hk, List.length_append, pairsV_append]
            exact hR2
    · have e : i = n := by omega
      go_wp2_with fail
      go_ret
      have h1 := HO.out.row
      rw [e, HN.out, List.take_length] at h1
      exact ⟨_, rfl, h1, HO.out.below⟩
end Go.Proofs.YtccmjljlfgbicaaGreat

/- WalkSound, the walk. -/
namespace Go.Proofs.YtccmjljlfgbicaaGreat
open Go.ChangeShapes Go.WideShapes Go.ChangeAt Go.RowKit

set_option maxRecDepth 100000 in
set_option maxHeartbeats 4000000 in
theorem sound_walk {x : Scene} {v : Value} {ia ca : Option Addr} {ic cc : Nat} (key mode : Int) (w : World) (hx : x.fits) (hS : SceneAt w v x ia ca ic cc) :
    Calls Tryz.prog 12 #[v, .int .u64 key, .int .i64 mode] w fun e w' => e = .returned (.bool true) ∧ Below w.heap.size w w' := by
  have HS := Lib.hid hS
  obtain ⟨rfl, _, _⟩ := hS
  have HX := Lib.hid hx
  clear hx
  have E0 := At.new w 25 #[.int .u8 x.fuel, .slice ia x.items.length ic, .slice ca x.calls.length cc]
  have D0 : Below w.heap.size w (w.alloc (.cells #[.int .u8 x.fuel, .slice ia x.items.length ic, .slice ca x.calls.length cc] 25)) := (Below.refl _ w).alloc (Nat.le_refl _) _
  cases hfew : x.few with
  | false =>
    have HF := Lib.hid hfew
    clear hfew
    go_enter Tryz.func12, Tryz.ntmps12
    go_upto_region 1 with fail
    generalize w.alloc (.cells #[.int .u8 x.fuel, .slice ia x.items.length ic, .slice ca x.calls.length cc] 25) = w0 at *
    go_wp2_with (first
      | (go_at_call 14; refine (few_any _).mono ?_; rintro e w2 ⟨rfl, hb2⟩; rw [HF.out])
      | (refine wpl_ld rfl 25 _ rfl #[.int .u8 x.fuel, .slice ia x.items.length ic, .slice ca x.calls.length cc] rfl _ (E0.below' hb1) Tryz.underlying25 rfl (by kernel_rfl) rfl ?_)
      | (go_at_call 25; refine (awake10_any _).mono ?_; rintro e w1 ⟨rfl, hb1⟩))
    go_ret
    exact ⟨rfl, D0.trans ((hb1.trans (hb2.mono hb1.size)).mono D0.size)⟩
  | true =>
    have HF := Lib.hid hfew
    have hlen : x.items.length ≤ 12 ∧ x.calls.length ≤ 6 := by
      unfold Scene.few at hfew
      simpa using hfew
    clear hfew
    obtain ⟨m, hm⟩ : ∃ m : Nat, m = 12 * x.items.length + 4 := ⟨_, rfl⟩
    have HM := Lib.hid hm
    have e1 : IntKind.i64.wrap (12 * (x.items.length : Int)) = 12 * (x.items.length : Int) := IntWalk.i64_in _ (by omega)
    have e2 : IntKind.i64.wrap (12 * (x.items.length : Int) + 4) = (m : Int) := by rw [IntWalk.i64_in _ (by omega)]; omega
    have hm9 : m ≤ 148 := by omega
    clear hm
    have hbk : x.lay.c.buckets = 1 := by rw [(lay_path HX.out hlen.1).2.1]; rfl
    have hch : (x.lay.chain 0).length ≤ 19 := by rw [lay_chain HX.out hlen.1, laidL_len]; omega
    have HBK := Lib.hid hbk
    have HCH := Lib.hid hch
    obtain ⟨sb, hsb⟩ : ∃ sb, x.lay.sound = sb := ⟨_, rfl⟩
    have HSB := Lib.hid hsb
    have HSD := Lib.hid (show sb = true ↔ x.sound by rw [← hsb, St.sound_one hbk]; rfl)
    clear hsb
    have HL := Lib.hid hlen
    clear hbk hlen hch
    go_enter Tryz.func12, Tryz.ntmps12
    go_upto_region 1 with fail
    generalize w.alloc (.cells #[.int .u8 x.fuel, .slice ia x.items.length ic, .slice ca x.calls.length cc] 25) = w0 at *
    go_wp2_with (first
      | (refine wpl_st rfl 74 _ _ rfl (Walk.cells (Walk.new key mode)) rfl _ rfl (At.new w5 _ _) (by kernel_rfl) rfl rfl rfl ?_; intro w6 A6 O6
         have D56 := new_below9 O6)
      | (go_at_call 27; refine (walknew_any key mode _).mono ?_; rintro e w5 ⟨rfl, hb5⟩)
      | (go_at_call 34; refine (lSound_any _ (hH.below hbP)).mono ?_; rintro e w4 ⟨rfl, hb4⟩; rw [HSB.out])
      | (go_at_call 48; refine (lpairs_any w3 hH HBK.out HCH.out).mono ?_; rintro e wP ⟨vP, rfl, hRP, hbP⟩
         have hPI := PairsIn.of_row (N := fun z => ¬ Own k z) hRP (fun z hz => hH.fresh hz)
         obtain ⟨pa, pc, rfl⟩ := hPI.form)
      | (go_at_call 26; refine (lay10_any w2 HX.out HL.out.1 HL.out.2 ⟨rfl, HS.out.items.below D2, HS.out.calls.below D2⟩).mono ?_; rintro e w3 ⟨k, rfl, hH, hK, hb3⟩
         have D3 := D2.trans (hb3.mono D2.size))
      | (refine wpl_ld rfl 25 _ rfl #[.int .u8 x.fuel, .slice ia x.items.length ic, .slice ca x.calls.length cc] rfl _ ((E0.below' hb1).below' hb2) Tryz.underlying25 rfl (by kernel_rfl) rfl ?_)
      | (go_at_call 14; refine (few_any _).mono ?_; rintro e w2 ⟨rfl, hb2⟩; rw [HF.out]
         have D2 := D0.trans ((hb1.trans (hb2.mono hb1.size)).mono D0.size))
      | (refine wpl_ld rfl 25 _ rfl #[.int .u8 x.fuel, .slice ia x.items.length ic, .slice ca x.calls.length cc] rfl _ (E0.below' hb1) Tryz.underlying25 rfl (by kernel_rfl) rfl ?_)
      | (go_at_call 25; refine (awake10_any _).mono ?_; rintro e w1 ⟨rfl, hb1⟩))
    have z0 := D0.size
    have z1 := hb1.size
    have z2 := hb2.size
    have z3 := hb3.size
    have zP := hbP.size
    have z4 := hb4.size
    have z5 := hb5.size
    have z6 := A6.lt
    have zE := E0.lt
    have D6 : Below w.heap.size w w6 := (((D3.trans (hbP.mono D3.size)).trans (hb4.mono (by omega))).trans (hb5.mono (by omega))).trans (D56.mono (by omega))
    have E6 := (((((E0.below' hb1).below' hb2).below' hb3).below' hbP).below' hb4).below' hb5 |>.below' D56
    have H5 : Holds k x.lay w5 := ((hH.below hbP).below hb4).below hb5
    have NG : ¬ Own k w5.heap.size := H5.fresh (Nat.le_refl _)
    have HKW := Lib.hid (show ∀ z, Own k z → w.heap.size + 1 ≤ z from fun z e => by have := hK z (.inr (.inr e)); omega)
    have NE : ¬ Own k w.heap.size := fun e => by have := HKW.out _ e; omega
    have H6 := H5.below D56
    have P6 : PairsIn w6 (fun z => ¬ Own k z ∧ z ≠ w5.heap.size) (.slice pa x.lay.prs.length pc) x.lay.prs := ((hPI.below hb4).below hb5).go (fun z hz hl => ⟨hz, by omega⟩) (fun z _ hl => D56.block z hl)
    have OG := Lib.hid (H5.out (Nat.le_refl w5.heap.size))
    have hgw : w.heap.size < w5.heap.size := by omega
    clear hPI hRP hbP zP hb1 hb2 hb3 hb4 hb5 D56 D0 D2 D3 E0 hH hK H5 O6 z0 z1 z2 z3 z4 z5 zE
    generalize w5.heap.size = g at *
    generalize hpl : x.lay.prs.length = pl at *
    go_loopg [12] m (fun gg v12 wr => ∃ i : Nat, v12 = .int .i64 i ∧ i + gg = m ∧ ∃ s y, ClnAt x key mode x.sound i s y ∧ Holds k s wr ∧ At wr g 74 y.cells ∧ At wr w.heap.size 25 #[.int .u8 x.fuel, .slice ia x.items.length ic, .slice ca x.calls.length cc] ∧ Below w.heap.size w wr ∧ PairsIn wr (fun z => ¬ Own k z ∧ z ≠ g) (.slice pa pl pc) x.lay.prs)
    case atStart => exact ⟨0, rfl, by omega, x.lay, Walk.new key mode, cln_start HX.out HL.out.1 key mode, H6, A6, E6, D6, P6⟩
    case round =>
      obtain ⟨i, rfl, hi, s, y, hC, hH, hA, hE, hD, hP⟩ := hrel
      have HC := Lib.hid hC
      have f1 : wr.cell? ⟨w.heap.size, 1, none⟩ = some (.slice ia x.items.length ic) := hE.cell 1
      have hyn : 0 ≤ y.next ∧ y.next ≤ 18446744073709551615 := hC.ends.next
      clear hC A6 E6 D6 H6 P6
      by_cases hlt : i < m
      · have hst := cln_step HX.out HL.out.1 HC.out
        have hws := wstep_any (k := k) (s := s) y wr hH hyn
        generalize s.walkStep y = q at *
        obtain ⟨s2, y2⟩ := q
        have HST := Lib.hid hst
        have HWS := Lib.hid hws
        clear hst hws hyn
        cases sb with
        | false =>
          go_wp2_with (first
            | (refine wpl_st rfl 74 _ _ rfl (Walk.cells y2) rfl _ rfl (hA.only hO2 NG) (by kernel_rfl) rfl rfl rfl ?_; intro w4 A4 O4)
            | (go_at_call 30; refine HWS.out.mono ?_; rintro e w2 ⟨rfl, hH2, hO2⟩)
            | (refine wpl_ld rfl 74 _ rfl (Walk.cells y) rfl _ hA Tryz.underlying74 rfl (by kernel_rfl) rfl ?_))
          go_roundg (m - (i + 1))
          case measure => omega
          case rel =>
            have D2 : Below w.heap.size w w2 := hD.trans (hO2.below hD.size fun z hz e => by have := HKW.out z e; omega)
            exact ⟨i + 1, rfl, by omega, s2, y2, HST.out, hH2.but OG.out O4, A4, (hE.only hO2 NE).only O4 (by show ¬ _ = _; omega), D2.trans (O4.below D2.size fun z hz e => by have e' : z = g := e; omega), (hP.only hO2 fun z hz => hz.1).only O4 fun z hz => hz.2⟩
        | true =>
          have HSN := Lib.hid (cln_sound HX.out HL.out.1 HST.out (HSD.out.1 rfl))
          go_wp2_with (first
            | (go_at_call 34; refine (lSound_any w4 (hH2.but OG.out O4)).mono ?_; rintro e w5 ⟨rfl, hb5⟩; rw [HSN.out])
            | (refine wpl_st rfl 74 _ _ rfl (Walk.cells y2) rfl _ rfl (hA.only hO2 NG) (by kernel_rfl) rfl rfl rfl ?_; intro w4 A4 O4)
            | (go_at_call 30; refine HWS.out.mono ?_; rintro e w2 ⟨rfl, hH2, hO2⟩)
            | (refine wpl_ld rfl 74 _ rfl (Walk.cells y) rfl _ hA Tryz.underlying74 rfl (by kernel_rfl) rfl ?_))
          go_roundg (m - (i + 1))
          case measure => omega
          case rel =>
            have D2 : Below w.heap.size w w2 := hD.trans (hO2.below hD.size fun z hz e => by have := HKW.out z e; omega)
            have D4 := D2.trans (O4.below D2.size fun z hz e => by have e' : z = g := e; omega)
            exact ⟨i + 1, rfl, by omega, s2, y2, HST.out, (hH2.but OG.out O4).below hb5, A4.below' hb5, ((hE.only hO2 NE).only O4 (by show ¬ _ = _; omega)).below' hb5, D4.trans (hb5.mono D4.size), ((hP.only hO2 fun z hz => hz.1).only O4 fun z hz => hz.2).below hb5⟩
      · have e : i = m := by omega
        have hd := (cln_end HX.out HL.out.1 HC.out (e.trans HM.out)).1
        have HBS := Lib.hid (cln_buckets HX.out HL.out.1 HC.out)
        have HCS := Lib.hid (show (s.chain 0).length ≤ 19 from Nat.le_trans (cln_chain HX.out HL.out.1 HC.out) (by decide))
        have hs12 : s.prs.length ≤ 19 := Nat.le_trans (by unfold St.prs; rw [isort_len]; exact prs_len _ _ _ _) HCS.out
        have hl12 : x.lay.prs.length ≤ 19 := Nat.le_trans (by unfold St.prs; rw [isort_len]; exact prs_len _ _ _ _) HCH.out
        have f9 : wr.cell? ⟨g, 9, none⟩ = some (.bool true) := by rw [← hd]; exact hA.cell 9
        have hmb : (mode == 1) = true ∨ (mode == 1) = false := by cases mode == 1 <;> simp
        have HHH := Lib.hid hH
        clear hd hyn
        cases sb with
        | false =>
          rcases hmb with hmb | hmb
          all_goals go_wp2_with (go_at_call 48; refine (lpairs_any wr HHH.out HBS.out HCS.out).mono ?_; rintro e wP ⟨vP, rfl, hRP, hbP⟩; have g9 : wP.cell? ⟨g, 9, none⟩ = some (.bool true) := by rw [hbP.cell hA.lt]; exact f9)
          all_goals go_ret
          all_goals exact ⟨rfl, hD.trans (hbP.mono hD.size)⟩
        | true =>
          obtain ⟨hp1, hp2⟩ := cln_pairs HX.out HL.out.1 HC.out (HSD.out.1 rfl)
          have HP1 := Lib.hid hp1
          have HP2 := Lib.hid hp2
          clear hp1 hp2
          have hl1 : x.lay.prs.length ≤ 1000 := by omega
          have hl2 : s.prs.length ≤ 1000 := by omega
          have hol : (othersL x.lay.prs key).length ≤ 100000 := by
            have : (othersL x.lay.prs key).length ≤ x.lay.prs.length := List.length_filter_le _ _
            omega
          have HLL := Lib.hid (And.intro hl1 (And.intro hl2 hol))
          clear hl1 hl2 hol hs12 hl12
          have hmm : (mode == 1) = false → mode ≠ 1 := fun h => by simpa using h
          rcases hmb with hmb | hmb
          · go_wp2_with (first
              | (go_at_call 50; refine (same09_any wV (PO.below hbV) PV HLL.out.2.2).mono ?_; rintro e wS ⟨rfl, hbS⟩; rw [decide_eq_true HP1.out])
              | (go_at_call 53; refine (others_any key wO (PI.below hbO) HLL.out.2.1).mono ?_; rintro e wV ⟨vV, rfl, hRV, hbV⟩
                 have PV := PairsIn.of_row (N := fun _ => True) hRV (fun _ _ => trivial))
              | (go_at_call 53; refine (others_any key wP PW HLL.out.1).mono ?_; rintro e wO ⟨vO, rfl, hRO, hbO⟩
                 have PO := PairsIn.of_row (N := fun _ => True) hRO (fun _ _ => trivial))
              | (go_at_call 48; refine (lpairs_any wr HHH.out HBS.out HCS.out).mono ?_; rintro e wP ⟨vP, rfl, hRP, hbP⟩
                 have g9 : wP.cell? ⟨g, 9, none⟩ = some (.bool true) := by rw [hbP.cell hA.lt]; exact f9
                 have PW := hP.below hbP
                 have PI := PairsIn.of_row (N := fun _ => True) hRP (fun _ _ => trivial)))
            all_goals go_ret
            all_goals exact ⟨rfl, hD.trans ((((hbP.trans (hbO.mono hbP.size)).trans (hbV.mono (by have := hbP.size; have := hbO.size; omega))).trans (hbS.mono (by have := hbP.size; have := hbO.size; have := hbV.size; omega))).mono hD.size)⟩
          · have hne := hmm hmb
            have HP3 := Lib.hid (HP2.out hne)
            clear hmm hne
            go_wp2_with (first
              | (go_at_call 50; refine (same09_any wS (((PW.below hbO).below hbV).below hbS) (((PI.below hbO).below hbV).below hbS) (by have := HLL.out.1; omega)).mono ?_; rintro e wT ⟨rfl, hbT⟩; rw [decide_eq_true HP3.out])
              | (go_at_call 50; refine (same09_any wV (PO.below hbV) PV HLL.out.2.2).mono ?_; rintro e wS ⟨rfl, hbS⟩; rw [decide_eq_true HP1.out])
              | (go_at_call 53; refine (others_any key wO (PI.below hbO) HLL.out.2.1).mono ?_; rintro e wV ⟨vV, rfl, hRV, hbV⟩
                 have PV := PairsIn.of_row (N := fun _ => True) hRV (fun _ _ => trivial))
              | (go_at_call 53; refine (others_any key wP PW HLL.out.1).mono ?_; rintro e wO ⟨vO, rfl, hRO, hbO⟩
                 have PO := PairsIn.of_row (N := fun _ => True) hRO (fun _ _ => trivial))
              | (go_at_call 48; refine (lpairs_any wr HHH.out HBS.out HCS.out).mono ?_; rintro e wP ⟨vP, rfl, hRP, hbP⟩
                 have g9 : wP.cell? ⟨g, 9, none⟩ = some (.bool true) := by rw [hbP.cell hA.lt]; exact f9
                 have PW := hP.below hbP
                 have PI := PairsIn.of_row (N := fun _ => True) hRP (fun _ _ => trivial)))
            all_goals go_ret
            all_goals first
              | exact ⟨rfl, hD.trans (((((hbP.trans (hbO.mono hbP.size)).trans (hbV.mono (by have := hbP.size; have := hbO.size; omega))).trans (hbS.mono (by have := hbP.size; have := hbO.size; have := hbV.size; omega))).trans (hbT.mono (by have := hbP.size; have := hbO.size; have := hbV.size; have := hbS.size; omega))).mono hD.size)⟩
              | (exfalso; simp at hmb; done)
              | (exfalso; simp at hmb; omega)
end Go.Proofs.YtccmjljlfgbicaaGreat

/- WalkSound returns true for every scene, key and mode: in a sound world a walk that nobody disturbs leaves a sound one; the pairs are the same, but for pairs of its key, when it decides. No condition. -/
namespace Go.Proofs.YtccmjljlfgbicaaGreat.walkSound
open Go.ChangeShapes Go.WideShapes Go.ChangeAt Go.RowKit
set_option linter.unusedVariables false

theorem own : ownKnob Tryz.prog.godebug = none := by kernel_rfl
theorem laidOut : laidOutB Tryz.prog = true := by kernel_rfl

set_option maxRecDepth 100000 in
theorem lifted (os : Os) (started : os.Started) (H : Type) (enc : TypeId × Value → H) :
    ReturnsInHanded {} Tryz.checked os 12 .any (Rows.walkSoundSpec.pre6 enc Tryz.prog Tryz.f12 Rows.walkSoundRow.domain false) (Rows.walkSoundSpec.post enc Tryz.prog Tryz.f12 false true false false) := by
  refine returnsInHanded_of_change (C := Tryz.checked) own started (by kernel_rfl) Tryz.func12
    (ChangeSpec.witness6 (enc := enc) (C := Tryz.checked) false ⟨#[], #[.agg #[.int .u8 0, .slice none 0 0, .slice none 0 0], .int .u64 0, .int .i64 0], []⟩ 12 (by kernel_rfl) (by kernel_rfl) (by kernel_rfl) (by kernel_rfl)) ?_
  intro W base args ds gs before hval0 hW hcnd _
  have hval : ∀ (j : Nat) t v, Tryz.f12.params[j]? = some t → args[j]? = some v → Value.okWide Tryz.prog W .any base t v := hval0
  have hW' := hW
  obtain ⟨p, q, hA0, hV, rfl, hfz, hnd⟩ := hW
  have hA : DataW.TrodAll enc Tryz.prog W 0 (fun _ => true) true Tryz.f12.params.toList args.toList ds p := hA0
  rw [Tryz.params12] at hA hval
  obtain ⟨v0, vs0, d0, ds0, p0, q0, hargs, rfl, rfl, h0, r0⟩ := trodAll_cons hA
  obtain ⟨v1, vs1, d1, ds1, p1, q1, rfl, rfl, rfl, h1, r1⟩ := trodAll_cons r0
  obtain ⟨v2, vs2, d2, ds2, p2, q2, rfl, rfl, rfl, h2, r2⟩ := trodAll_cons r1
  obtain ⟨rfl, rfl, rfl⟩ := trodAll_nil r2
  obtain rfl : args = #[v0, v1, v2] := by cases args; simp_all
  obtain ⟨rfl, rfl⟩ := trodVars_none hV
  obtain ⟨c0, ia0, ca0, ic0, cc0, hS0, hx0⟩ := open_scene (hval 0 _ v0 rfl rfl) h0
  obtain ⟨a1, rfl, rfl, rfl, w1⟩ := open_int Tryz.underlying26 (hval 1 _ v1 rfl rfl) h1
  obtain ⟨a2, rfl, rfl, rfl, w2⟩ := open_int Tryz.underlying3 (hval 2 _ v2 rfl rfl) h2
  clear hA0 hval0
  simp only [List.append_nil] at hW'
  refine (sound_walk a1 a2 W hx0 hS0).mono fun e W' ⟨he, hb⟩ => ?_
  subst he
  have hlt : ∀ y ∈ p0, y.block < W.heap.size := fun y hy => by simpa using hW'.lt y (by simpa using hy)
  exact ⟨_, rfl, post_new hW' hb (fun _ _ _ => trodAll_cons_mk (shut_bool Tryz.underlying4 _) trodAll_mk0)
    (fun sp hsp => by
      have := (trodAll_cons_mk (WideElems.Trod_stays laidOut (by kernel_rfl) (of_decide_eq_true (by kernel_rfl)) h0 (fun y hy => hb.same (hlt y hy)) (fun y hy => hsp y hy)) (trodAll_cons_mk (shut_int Tryz.underlying26 w1) (trodAll_cons_mk (shut_int Tryz.underlying3 w2) trodAll_mk0)))
      simp only [List.append_nil] at this
      exact this)
    (fun _ => rfl) (ok_one (by kernel_rfl) rfl (okWide_bool_mk Tryz.underlying4 _))⟩

theorem over : Rows.walkSoundRow.holds Tryz.pinned (OpenSpec.ofChange Rows.walkSoundSpec) :=
  OpenClaim.holds_of_wide 12 Tryz.f12 rfl rfl rfl rfl rfl rfl rfl ⟨rfl, rfl, rfl, rfl, rfl⟩ rfl rfl rfl rfl rfl (by kernel_rfl) Tryz.func12 (by kernel_rfl)
    (of_decide_eq_true (by kernel_rfl)) (by unfold Func.isWrapper; first | (rw [if_pos (by decide +kernel)]; kernel_rfl) | (rw [if_neg (by decide +kernel)]; exact ⟨rfl, rfl⟩))
    (fun os started H enc _ => lifted os started H enc)

theorem proved : Rows.WalkSoundSaid :=
  over
#print axioms proved
end Go.Proofs.YtccmjljlfgbicaaGreat.walkSound

