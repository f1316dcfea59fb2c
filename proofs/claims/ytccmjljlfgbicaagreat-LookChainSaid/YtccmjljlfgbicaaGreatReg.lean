/- A law for regions that draw their order: one thing is kept, whatever order is drawn; one obligation for each operation. Over any program. -/
import Derived.Test.YtccmjljlfgbicaaGreatRange
import Derived.Orders
namespace Go.Proofs.YtccmjljlfgbicaaGreat
open Go.RowKit

def fillT : List Oper → Nat → (Nat → Value) → Array Value → Array Value
  | [], _, _, ts => ts
  | o :: l, k, us, ts => fillT l (k + 1) us (match o.dst with | some d => ts.setIfInBounds d (us k) | none => ts)
/-- The state with what operations yielded. -/
def fillA (l : List Oper) (us : Nat → Value) (a : Act) : Act := { a with tmps := fillT l 0 us a.tmps }
/-- No two operations yield into one place. -/
def dstsOk : List Oper → Bool
  | [] => true
  | o :: l => (match o.dst with | some d => l.all (fun o' => o'.dst != some d) | none => true) && dstsOk l
def updN (us : Nat → Value) (i : Nat) (v : Value) : Nat → Value := fun j => if j = i then v else us j
def updB (dn : Nat → Bool) (i : Nat) : Nat → Bool := fun j => if j = i then true else dn j

theorem fillT_set {d : Nat} {v : Value} : ∀ {l : List Oper} {k : Nat} {us : Nat → Value} {ts : Array Value}, l.all (fun o' => o'.dst != some d) = true → (fillT l k us ts).setIfInBounds d v = fillT l k us (ts.setIfInBounds d v)
  | [], _, _, _, _ => rfl
  | o :: l, k, us, ts, h => by
    simp only [List.all_cons, Bool.and_eq_true] at h
    unfold fillT
    rw [fillT_set h.2]
    congr 1
    cases hd : o.dst with
    | none => rfl
    | some d' =>
      have hne : d' ≠ d := by
        intro e
        rw [hd, e] at h
        simp at h
      exact Array.setIfInBounds_comm _ _ hne
theorem fillT_congr : ∀ {l : List Oper} {k : Nat} {us us' : Nat → Value} {ts : Array Value}, (∀ j, k ≤ j → us j = us' j) → fillT l k us ts = fillT l k us' ts
  | [], _, _, _, _, _ => rfl
  | o :: l, k, us, us', ts, h => by
    unfold fillT
    rw [h k (Nat.le_refl _)]
    exact fillT_congr fun j hj => h j (by omega)
theorem fillT_put : ∀ {l : List Oper} {k i : Nat} {us : Nat → Value} {ts : Array Value} {o : Oper} {v : Value}, dstsOk l = true → l[i]? = some o → (match o.dst with | some d => (fillT l k us ts).setIfInBounds d v | none => fillT l k us ts) = fillT l k (updN us (k + i) v) ts
  | [], _, _, _, _, _, _, _, h => by simp at h
  | o0 :: l, k, 0, us, ts, o, v, hd, h => by
    simp only [List.getElem?_cons_zero, Option.some.injEq] at h
    subst h
    unfold dstsOk at hd
    rw [Bool.and_eq_true] at hd
    have hc : ∀ ts, fillT l (k + 1) (updN us (k + 0) v) ts = fillT l (k + 1) us ts := fun ts => fillT_congr fun j hj => by unfold updN; rw [if_neg (by omega)]
    unfold fillT
    rw [hc]
    cases hdd : o0.dst with
    | none => rfl
    | some d =>
      rw [hdd] at hd
      dsimp only
      rw [fillT_set hd.1]
      unfold updN
      rw [if_pos (Nat.add_zero k).symm]
      congr 1
      simp
  | o0 :: l, k, i + 1, us, ts, o, v, hd, h => by
    rw [List.getElem?_cons_succ] at h
    unfold dstsOk at hd
    rw [Bool.and_eq_true] at hd
    have ih := fillT_put (l := l) (k := k + 1) (i := i) (us := us) (ts := match o0.dst with | some d => ts.setIfInBounds d (us k) | none => ts) (v := v) hd.2 h
    have e : updN us (k + (i + 1)) v k = us k := by unfold updN; rw [if_neg (by omega)]
    have e2 : k + (i + 1) = k + 1 + i := by omega
    unfold fillT
    rw [e, e2]
    exact ih
theorem fillT_self : ∀ {l : List Oper} {k : Nat} {us : Nat → Value} {ts : Array Value}, (∀ j o d, l[j]? = some o → o.dst = some d → us (k + j) = ts.getD d undef) → fillT l k us ts = ts
  | [], _, _, _, _ => rfl
  | o :: l, k, us, ts, h => by
    have e : (match o.dst with | some d => ts.setIfInBounds d (us k) | none => ts) = ts := by
      cases hd : o.dst with
      | none => rfl
      | some d =>
        have := h 0 o d rfl hd
        rw [Nat.add_zero] at this
        dsimp only
        rw [this]
        apply Array.ext (by simp)
        intro j h1 h2
        rw [Array.getElem_setIfInBounds]
        split
        · rename_i e
          subst e
          simp [Array.getD, h2]
        · rfl
    unfold fillT
    rw [e]
    exact fillT_self fun j o' d h1 h2 => by rw [show k + 1 + j = k + (j + 1) by omega]; exact h (j + 1) o' d (by rw [List.getElem?_cons_succ]; exact h1) h2

/-- Where an operation of a list yields its value: its number. -/
def lookD : List Oper → Nat → Nat → Option Nat
  | [], _, _ => none
  | o :: l, k, d => if o.dst = some d then some k else lookD l (k + 1) d
def evF (l : List Oper) (us : Nat → Value) (a : Act) (x : Operand) : Value :=
  match x with
  | .tmp d => (match lookD l 0 d with | some j => us j | none => a.eval (.tmp d))
  | x => a.eval x
def inTs (l : List Oper) (n : Nat) : Bool := l.all fun o => match o.dst with | some d => decide (d < n) | none => true
theorem fillT_size : ∀ {l : List Oper} {k : Nat} {us : Nat → Value} {ts : Array Value}, (fillT l k us ts).size = ts.size
  | [], _, _, _ => rfl
  | o :: l, k, us, ts => by
    unfold fillT
    rw [fillT_size]
    cases o.dst <;> simp
theorem fillT_get {d : Nat} : ∀ {l : List Oper} {k : Nat} {us : Nat → Value} {ts : Array Value}, dstsOk l = true → inTs l ts.size = true → (fillT l k us ts).getD d undef = (match lookD l k d with | some j => us j | none => ts.getD d undef)
  | [], _, _, _, _, _ => rfl
  | o :: l, k, us, ts, hd, hb => by
    unfold dstsOk at hd
    rw [Bool.and_eq_true] at hd
    unfold inTs at hb
    simp only [List.all_cons, Bool.and_eq_true] at hb
    unfold fillT lookD
    have hb' : ∀ ts' : Array Value, ts'.size = ts.size → inTs l ts'.size = true := fun ts' e => by rw [e]; exact hb.2
    cases hdd : o.dst with
    | none =>
      dsimp only
      rw [if_neg (by simp)]
      exact fillT_get hd.2 (hb' _ rfl)
    | some d' =>
      dsimp only
      rw [fillT_get hd.2 (hb' _ (by simp))]
      by_cases e : d' = d
      · subst e
        rw [if_pos rfl]
        have hno : ∀ (l : List Oper) (k : Nat), l.all (fun o' => o'.dst != some d') = true → lookD l k d' = none := by
          intro l
          induction l with
          | nil => intro k _; rfl
          | cons o2 l ih =>
            intro k h
            simp only [List.all_cons, Bool.and_eq_true] at h
            unfold lookD
            rw [if_neg (by simpa using h.1)]
            exact ih _ h.2
        rw [hdd] at hd hb
        rw [hno l _ hd.1]
        have hlt : d' < ts.size := by simpa using hb.1
        simp [Array.getD, hlt]
      · rw [if_neg (by simpa using e)]
        have : (ts.setIfInBounds d' (us k)).getD d undef = ts.getD d undef := by
          unfold Array.getD
          by_cases hlt : d < ts.size
          · simp [hlt, e]
          · simp [hlt]
        rw [this]
theorem fill_eval {l : List Oper} {us : Nat → Value} {a : Act} (hd : dstsOk l = true) (hb : inTs l a.tmps.size = true) : (fillA l us a).eval = evF l us a := by
  funext x
  cases x with
  | tmp d => exact fillT_get hd hb
  | _ => rfl

section
variable {P : Program} {md : Region.Mode}
theorem fill_put {l : List Oper} {i : Nat} {o : Oper} {us : Nat → Value} {a : Act} {v : Value} (hd : dstsOk l = true) (h : l[i]? = some o) : (fillA l us a).put o.dst v = fillA l (updN us i v) a := by
  have := fillT_put (k := 0) (us := us) (ts := a.tmps) (v := v) hd h
  rw [Nat.zero_add] at this
  unfold fillA
  rw [← this]
  cases o.dst <;> rfl
/-- How many are still to come. -/
def unl (listed : Array Bool) : Nat := listed.toList.countP (fun b => !b)
theorem unl_set {listed : Array Bool} {i : Nat} (h : listed[i]? = some false) : unl (listed.setIfInBounds i true) + 1 = unl listed := by
  obtain ⟨L⟩ := listed
  unfold unl
  simp only [List.setIfInBounds_toArray]
  have h' : L[i]? = some false := by simpa using h
  clear h
  induction L generalizing i with
  | nil => simp at h'
  | cons b L ih =>
    cases i with
    | zero =>
      simp only [List.getElem?_cons_zero, Option.some.injEq] at h'
      subst h'
      simp
    | succ i =>
      rw [List.getElem?_cons_succ] at h'
      have := ih h'
      simp only [List.set_cons_succ, List.countP_cons]
      omega
theorem unl_zero {listed : Array Bool} (h : unl listed = 0) (i : Nat) : listed[i]? ≠ some false := by
  intro hi
  have := unl_set hi
  omega

/-- The walk's own law: whatever is ready keeps what is kept. -/
theorem wpAny_J {l : List Oper} {Q : Exit → Act → World → Prop} {a : Act} {G : (Nat → Bool) → (Nat → Value) → World → Prop} (hd : dstsOk l = true) (hac : ∀ (i : Nat) (o : Oper), l[i]? = some o → ∀ e ∈ o.after, Region.binds md e = true → e.on < i)
    (hop : ∀ (i : Nat) (o : Oper), l[i]? = some o → ∀ (dn : Nat → Bool) (us : Nat → Value) (w : World), G dn us w → dn i = false → (∀ e ∈ o.after, Region.binds md e = true → dn e.on = true) → wpOp P l.toArray Q i (fun a' w' => ∃ v, a' = (fillA l us a).put o.dst v ∧ G (updB dn i) (updN us i v) w') (fillA l us a) w)
    (hend : ∀ dn us w, G dn us w → (∀ i, i < l.length → dn i = true) → Q .normal (fillA l us a) w) :
    ∀ (fuel : Nat) (listed : Array Bool) (us : Nat → Value) (w : World), listed.size = l.length → unl listed ≤ fuel → G (fun i => listed.getD i false) us w → wpAny P md l.toArray Q fuel listed (fillA l us a) w := by
  have fin : ∀ (listed : Array Bool) (us : Nat → Value) (w : World), listed.size = l.length → G (fun i => listed.getD i false) us w → Region.ready md l.toArray listed = [] → Q .normal (fillA l us a) w := by
    intro listed us w hs hG hr
    refine hend _ us w hG ?_
    have key : ∀ n i, i < n → i < l.length → listed.getD i false = true := by
      intro n
      induction n with
      | zero => intro i h; omega
      | succ n ih =>
        intro i hi hl
        cases hb : listed.getD i false with
        | true => rfl
        | false =>
          exfalso
          obtain ⟨o, ho⟩ : ∃ o, l[i]? = some o := ⟨_, List.getElem?_eq_getElem hl⟩
          have hmem : i ∈ Region.ready md l.toArray listed := by
            rw [mem_ready]
            have hlt : i < listed.size := by omega
            have hbt : listed.getD i true = false := by
              have e1 : listed.getD i false = listed[i] := by simp [Array.getD, hlt]
              have e2 : listed.getD i true = listed[i] := by simp [Array.getD, hlt]
              rw [e2, ← e1, hb]
            refine ⟨hbt, o, by simpa using ho, ?_⟩
            intro e he hbd
            have := hac i o ho e he hbd
            exact ih e.on (by omega) (by omega)
          rw [hr] at hmem
          cases hmem
    intro i hi
    exact key (i + 1) i (by omega) hi
  intro fuel
  induction fuel with
  | zero =>
    intro listed us w hs hu hG
    have hr : Region.ready md l.toArray listed = [] := by
      cases hr : Region.ready md l.toArray listed with
      | nil => rfl
      | cons i r =>
        exfalso
        have hmem : i ∈ Region.ready md l.toArray listed := by rw [hr]; exact .head _
        rw [mem_ready] at hmem
        obtain ⟨h2, o, h3, _⟩ := hmem
        have hlt : i < listed.size := by rw [hs]; simpa using (Array.getElem?_eq_some_iff.1 h3).1
        have e2 : listed.getD i true = listed[i] := by simp [Array.getD, hlt]
        exact unl_zero (listed := listed) (by omega) i (by rw [Array.getElem?_eq_getElem hlt, ← e2, h2])
    exact ⟨hr, fin listed us w hs hG hr⟩
  | succ fuel ih =>
    intro listed us w hs hu hG
    refine ⟨fin listed us w hs hG, fun i hi => ?_⟩
    rw [mem_ready] at hi
    obtain ⟨h2, o, h3, h4⟩ := hi
    have ho : l[i]? = some o := by simpa using h3
    have hlt : i < listed.size := by rw [hs]; simpa using (Array.getElem?_eq_some_iff.1 h3).1
    have e2 : listed.getD i true = listed[i] := by simp [Array.getD, hlt]
    have e3 : listed.getD i false = listed[i] := by simp [Array.getD, hlt]
    refine wpOp_mono ?_ (hop i o ho _ us w hG (by rw [e3, ← e2, h2]) h4)
    rintro a' w' ⟨v, rfl, hG'⟩
    rw [fill_put hd ho]
    refine ih (listed.setIfInBounds i true) (updN us i v) w' (by simp [hs]) ?_ ?_
    · have := unl_set (listed := listed) (i := i) (by rw [Array.getElem?_eq_getElem hlt, ← e2, h2])
      omega
    · have e : (fun j => (listed.setIfInBounds i true).getD j false) = updB (fun j => listed.getD j false) i := by
        funext j
        unfold updB
        split
        · rename_i e; subst e; simp [Array.getD, hlt]
        · rename_i e
          exact getD_set_ne _ fun h => e h.symm
      rw [e]; exact hG'

def yF (l : List Oper) (us : Nat → Value) (a : Act) (j : Nat) : Option Bool :=
  match ((l[j]?).bind (·.dst)) with
  | some d => (match evF l us a (.tmp d) with | .bool b => some b | _ => none)
  | none => none
theorem fill_yielded {l : List Oper} {us : Nat → Value} {a : Act} (hd : dstsOk l = true) (hb : inTs l a.tmps.size = true) : yielded l.toArray (fillA l us a).tmps = yF l us a := by
  funext j
  unfold yielded yF
  simp only [List.getElem?_toArray]
  cases hj : l[j]? with
  | none => rfl
  | some o =>
    simp only [Option.bind_some]
    cases hdd : o.dst with
    | none => rfl
    | some d =>
      simp only [Option.bind_some]
      have e := congrFun (fill_eval (us := us) hd hb) (.tmp d)
      rw [← e]
      have hlt : d < (fillA l us a).tmps.size := by
        have h1 : (fillA l us a).tmps.size = a.tmps.size := fillT_size
        rw [h1]
        unfold inTs at hb
        have := List.all_eq_true.1 hb o (List.mem_of_getElem? hj)
        rw [hdd] at this
        simpa using this
      have e2 : (fillA l us a).eval (.tmp d) = (fillA l us a).tmps[d] := by
        show (fillA l us a).tmps.getD d undef = _
        simp [Array.getD, hlt]
      rw [e2, Array.getElem?_eq_getElem hlt]
      generalize (fillA l us a).tmps[d] = z
      cases z <;> rfl
/-- What is told of the operations that had to be carried out ahead. -/
def AllD (dn : Nat → Bool) : List Nat → Prop
  | [] => True
  | j :: r => dn j = true ∧ AllD dn r
/-- One operation's obligation. -/
def ObJ (P : Program) (l : List Oper) (Q : Exit → Act → World → Prop) (a : Act) (G : (Nat → Bool) → (Nat → Value) → World → Prop) (i : Nat) (o : Oper) : Prop :=
  ∀ (dn : Nat → Bool) (us : Nat → Value) (w : World) (A : Act), A.eval = evF l us a → yielded l.toArray A.tmps = yF l us a → G dn us w → dn i = false → AllD dn (o.after.toList.filterMap fun e => if Region.binds .any e then some e.on else none) →
    ∀ K : Act → World → Prop, (∀ v w', G (updB dn i) (updN us i v) w' → K (A.put o.dst v) w') → if Region.wanted o (yielded l.toArray A.tmps) = true then Oper.wp P o A w K Q else K (A.put o.dst undef) w
def EachJ (P : Program) (l : List Oper) (Q : Exit → Act → World → Prop) (a : Act) (G : (Nat → Bool) → (Nat → Value) → World → Prop) : List Oper → Nat → Prop
  | [], _ => True
  | o :: r, i => ObJ P l Q a G i o ∧ EachJ P l Q a G r (i + 1)
theorem EachJ.get {l : List Oper} {Q : Exit → Act → World → Prop} {a : Act} {G : (Nat → Bool) → (Nat → Value) → World → Prop} : ∀ {r : List Oper} {k i : Nat} {o : Oper}, EachJ P l Q a G r k → r[i]? = some o → ObJ P l Q a G (k + i) o
  | [], _, _, _, _, h => by simp at h
  | _ :: _, k, 0, o, h, ho => by
    simp only [List.getElem?_cons_zero, Option.some.injEq] at ho
    subst ho
    exact h.1
  | o0 :: r, k, i + 1, o, h, ho => by
    rw [List.getElem?_cons_succ] at ho
    have := EachJ.get h.2 ho
    rwa [show k + 1 + i = k + (i + 1) by omega] at this
theorem allD_of {dn : Nat → Bool} : ∀ {r : List Nat}, (∀ j ∈ r, dn j = true) → AllD dn r
  | [], _ => trivial
  | j :: _, h => ⟨h j (.head _), allD_of fun k hk => h k (.tail _ hk)⟩
def acyc : List Oper → Nat → Bool
  | [], _ => true
  | o :: r, k => o.after.all (fun e => !Region.binds .any e || decide (e.on < k)) && acyc r (k + 1)
theorem acyc_get : ∀ {r : List Oper} {k i : Nat} {o : Oper}, acyc r k = true → r[i]? = some o → ∀ e ∈ o.after, Region.binds .any e = true → e.on < k + i
  | [], _, _, _, _, h => by simp at h
  | o0 :: r, k, 0, o, h, ho => by
    simp only [List.getElem?_cons_zero, Option.some.injEq] at ho
    subst ho
    unfold acyc at h
    rw [Bool.and_eq_true, Array.all_eq_true_iff_forall_mem] at h
    intro e he hb
    have := h.1 e he
    rw [hb] at this
    simpa using this
  | o0 :: r, k, i + 1, o, h, ho => by
    rw [List.getElem?_cons_succ] at ho
    unfold acyc at h
    rw [Bool.and_eq_true] at h
    intro e he hb
    have := acyc_get h.2 ho e he hb
    omega
/-- A region that draws its order, by one obligation for each operation. -/
theorem wp_region_J {id : Nat} {Q : Exit → Act → World → Prop} {a : Act} {w : World} {l : List Oper} (G : (Nat → Bool) → (Nat → Value) → World → Prop) (hm : P.follows .mixedOrders = true) (hB : (dstsOk l && inTs l a.tmps.size && acyc l 0) = true)
    (h0 : ∀ us, G (fun _ => false) us w.drew) (hop : EachJ P l Q a G l 0) (hend : ∀ dn us w', G dn us w' → (∀ i, i < l.length → dn i = true) → Q .normal (fillA l us a) w') : (Code.region id l.toArray true).wp P Q a w := by
  simp only [Bool.and_eq_true] at hB
  obtain ⟨⟨hd, hb⟩, hc⟩ := hB
  refine wp_region_any hm ?_
  have hself : fillA l (fun j => match (l[j]?).bind (·.dst) with | some d => a.tmps.getD d undef | none => undef) a = a := by
    unfold fillA
    rw [fillT_self]
    intro j o d h1 h2
    simp [h1, h2]
  rw [← hself]
  refine wpAny_J (G := G) hd (fun i o ho e he hbd => by have := acyc_get hc ho e he hbd; omega) ?_ hend _ _ _ _ (by simp) ?_ ?_
  · intro i o ho dn us w1 hG hdn hdep
    have hO := hop.get ho dn us w1 (fillA l us a) (fill_eval hd hb) (fill_yielded hd hb) hG (by rw [Nat.zero_add]; exact hdn) (allD_of fun j hj => by
      obtain ⟨e, he, h2⟩ := List.mem_filterMap.1 hj
      split at h2
      · rename_i hbd
        injection h2 with h2
        rw [← h2]
        exact hdep e (by simpa using he) hbd
      · cases h2) (fun a' w' => ∃ v, a' = (fillA l us a).put o.dst v ∧ G (updB dn i) (updN us i v) w') (fun v w' hg => ⟨v, rfl, by rw [Nat.zero_add] at hg; exact hg⟩)
    unfold wpOp
    rw [show l.toArray[i]? = some o by simpa using ho]
    dsimp only
    split at hO
    · rename_i hw; rw [if_pos hw]; exact .inl hO
    · rename_i hw; rw [if_neg hw]; exact hO
  · unfold unl
    exact Nat.le_trans List.countP_le_length (by simp)
  · have e : (fun i => (Array.replicate l.toArray.size false).getD i false) = fun _ => false := by
      funext i
      by_cases hi : i < l.toArray.size
      · simp [Array.getD, Array.size_replicate]
      · simp [Array.getD, Array.size_replicate]
    rw [e]
    exact h0 _

theorem allD_mem {dn : Nat → Bool} : ∀ {r : List Nat} {j : Nat}, AllD dn r → j ∈ r → dn j = true
  | [], _, _, h => by cases h
  | _ :: _, j, hd, h => by
    rcases List.mem_cons.1 h with rfl | h
    · exact hd.1
    · exact allD_mem hd.2 h
/-- One operation's obligation, where nothing is turned. -/
def ObP (P : Program) (l : List Oper) (Q : Exit → Act → World → Prop) (a : Act) (W : World) (F : Nat → Value → Prop) (i : Nat) (o : Oper) : Prop :=
  ∀ (us : Nat → Value) (A : Act), A.eval = evF l us a → yielded l.toArray A.tmps = yF l us a → (∀ j ∈ (o.after.toList.filterMap fun e => if Region.binds .any e then some e.on else none), F j (us j)) →
    ∀ K : Act → World → Prop, (∀ v, F i v → K (A.put o.dst v) W) → if Region.wanted o (yielded l.toArray A.tmps) = true then Oper.wp P o A W K Q else K (A.put o.dst undef) W
def EachP (P : Program) (l : List Oper) (Q : Exit → Act → World → Prop) (a : Act) (W : World) (F : Nat → Value → Prop) : List Oper → Nat → Prop
  | [], _ => True
  | o :: r, i => ObP P l Q a W F i o ∧ EachP P l Q a W F r (i + 1)
theorem EachP.toJ {l : List Oper} {Q : Exit → Act → World → Prop} {a : Act} {W : World} {F : Nat → Value → Prop} : ∀ {r : List Oper} {k : Nat}, EachP P l Q a W F r k → EachJ P l Q a (fun dn us w => w = W ∧ ∀ j, dn j = true → F j (us j)) r k
  | [], _, _ => trivial
  | o :: r, k, h => by
    refine ⟨?_, EachP.toJ h.2⟩
    intro dn us w A hev hy hG hdn hdep K hK
    obtain ⟨rfl, hF⟩ := hG
    refine h.1 us A hev hy (fun j hj => hF j (allD_mem hdep hj)) K fun v hv => hK v w ⟨rfl, fun j hj => ?_⟩
    unfold updB at hj
    unfold updN
    split
    · rename_i e; rw [e]; exact hv
    · rename_i e; rw [if_neg e] at hj; exact hF j hj
/-- A region that draws its order, and turns nothing: one obligation for each operation, guarded ones too. -/
theorem wp_region_P {id : Nat} {Q : Exit → Act → World → Prop} {a : Act} {w : World} {l : List Oper} (F : Nat → Value → Prop) (hm : P.follows .mixedOrders = true) (hB : (dstsOk l && inTs l a.tmps.size && acyc l 0) = true)
    (hop : EachP P l Q a w.drew F l 0) (hend : ∀ us, (∀ i, i < l.length → F i (us i)) → Q .normal (fillA l us a) w.drew) : (Code.region id l.toArray true).wp P Q a w := by
  refine wp_region_J (fun dn us w' => w' = w.drew ∧ ∀ j, dn j = true → F j (us j)) hm hB (fun us => ⟨rfl, fun j hj => (by cases hj)⟩) hop.toJ ?_
  rintro dn us w' ⟨rfl, hF⟩ hall
  exact hend us fun i hi => hF i (hall i hi)

/-! ### Steps for such obligations -/
variable {o : Oper} {a : Act} {w : World} {K : Act → World → Prop} {Q : Exit → Act → World → Prop} {ops : Array Oper}
/-- By any law for the walk. -/
theorem step_list (h : wpList P ops (onlyN K) [o] a w) : if Region.wanted o (yielded ops a.tmps) = true then Oper.wp P o a w K Q else K (a.put o.dst undef) w := by
  unfold wpList at h
  split
  · rename_i hw
    rw [if_pos hw] at h
    rcases h with h | ⟨_, h⟩
    · have h2 : Oper.wp P o a w (fun a w => onlyN K .normal a w) (onlyN K) := h
      have h3 : Oper.wp P o a w K (onlyN K) := Oper.wp_mono (fun _ _ hh => hh.2) h2
      unfold Oper.wp at h3 ⊢
      generalize (execOp a.eval o).run P w = r at *
      cases r with
      | ok n w' =>
        cases n <;> simp only [Oper.upon] at h3 ⊢ <;>
          first
            | exact h3
            | exact Calls.mono h3 (fun e w'' he => by
                cases e with
                | returned v => exact he
                | panicked c => exact (by cases he.1)
                | outgrown => obtain ⟨_, _, h1⟩ := he; cases h1.1)
            | exact Rows.mono h3 (fun _ _ he => he)
      | halt x w' => cases x <;> simp only [Oper.upon] at h3 ⊢ <;> first | exact h3 | exact (by cases h3.1)
    · obtain ⟨_, _, h1⟩ := h
      cases h1.1
  · rename_i hw
    rw [if_neg hw] at h
    exact h.2
end
end Go.Proofs.YtccmjljlfgbicaaGreat
