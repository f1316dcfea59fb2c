/- Ranging over a function: codes that run in a round, the call of a loop's own function, the loop itself, and a function that leaves behind such loops. Over any program. -/
import Derived.Test.YtccmjljlfgbicaaGreatLow
namespace Go.Proofs.YtccmjljlfgbicaaGreat
open Go.RowKit

/-- A frame that is a round of loop l. -/
def atR (b : Frame) (l : Nat) (a : Act) (todo : List Item) : Frame :=
  { fn := b.fn, tmps := a.tmps, todo, defers := a.defers, mode := .run, kind := b.kind, roundOf := some l }

theorem atR_eval (b : Frame) (l : Nat) (a : Act) (todo : List Item) : (atR b l a todo).eval = a.eval := by
  funext x; cases x <;> rfl
theorem atR_finish (b : Frame) (l : Nat) (a : Act) (ops : Array Oper) (i : Nat) (rest : List Nat) (k : List Item) (v : Value) :
    (atR b l a (.inRegion ops (i :: rest) :: k)).finish v = atR b l (a.put ((ops[i]?).bind (·.dst)) v) (.inRegion ops rest :: k) := by
  cases h : (ops[i]?).bind (·.dst) <;> simp [Frame.finish, atR, Act.put, h]

section steps
variable {P : Program} {b : Frame} {l : Nat} {a : Act} {k : List Item} {cs : List Frame} {w : World}
theorem stepR_skip : step P (lone (atR b l a (.code .skip :: k)) cs w) = .next (lone (atR b l a k) cs w) :=
  step_lone_go (by simp [stepG, stepG.exec, atR])
theorem stepR_inBlock {id : Nat} : step P (lone (atR b l a (.inBlock id :: k)) cs w) = .next (lone (atR b l a k) cs w) :=
  step_lone_go (by simp [stepG, stepG.exec, atR])
theorem stepR_seq {x y : Code} : step P (lone (atR b l a (.code (.seq x y) :: k)) cs w) = .next (lone (atR b l a (.code x :: .code y :: k)) cs w) :=
  step_lone_go (by simp [stepG, stepG.exec, atR])
theorem stepR_cond {c : Operand} {x y : Code} {t : Bool} (h : a.eval c = .bool t) :
    step P (lone (atR b l a (.code (.cond c x y) :: k)) cs w) = .next (lone (atR b l a (.code (if t then x else y) :: k)) cs w) :=
  step_lone_go (by
    have := congrFun (atR_eval b l a (.code (.cond c x y) :: k)) c
    simp only [atR] at this
    simp [stepG, stepG.exec, atR, this, h])
theorem stepR_block {id : Nat} {c : Code} : step P (lone (atR b l a (.code (.block id c) :: k)) cs w) = .next (lone (atR b l a (.code c :: .inBlock id :: k)) cs w) :=
  step_lone_go (by simp [stepG, stepG.exec, atR])
theorem stepR_exit {id : Nat} {k' : List Item} (h : exitTo id k = some k') : step P (lone (atR b l a (.code (.exit id) :: k)) cs w) = .next (lone (atR b l a k') cs w) :=
  step_lone_go (by simp [stepG, stepG.exec, atR, h])
theorem stepR_region {id : Nat} {ops : Array Oper} :
    step P (lone (atR b l a (.code (.region id ops false) :: k)) cs w) = .next (lone (atR b l a (.inRegion ops (List.range ops.size) :: k)) cs w) :=
  step_lone_go (by simp [stepG, stepG.exec, atR])
theorem stepR_region_draw {id : Nat} {ops : Array Oper} :
    step P (lone (atR b l a (.code (.region id ops true) :: k)) cs w) =
      .next (lone (atR b l a (.inRegion ops (Region.schedule (P.follows .mixedOrders) ops (w.tape w.drawn (.order b.fn id))) :: k)) cs { w with drawn := w.drawn + 1 }) :=
  step_lone_go (by simp [stepG, stepG.exec, atR, choose, Sem.run, Question.forced, Question.cut])
theorem stepR_region_end {ops : Array Oper} : step P (lone (atR b l a (.inRegion ops [] :: k)) cs w) = .next (lone (atR b l a k) cs w) :=
  step_lone_go (by simp [stepG, stepG.exec, atR])
theorem stepR_op_skip {ops : Array Oper} {i : Nat} {rest : List Nat} (h : ((ops[i]?).map (Region.wanted · (yielded ops a.tmps))).getD false = false) :
    step P (lone (atR b l a (.inRegion ops (i :: rest) :: k)) cs w) = .next (lone (atR b l (a.put ((ops[i]?).bind (·.dst)) undef) (.inRegion ops rest :: k)) cs w) := by
  rw [← atR_finish]
  exact step_lone_go (by
    have h' := h
    simp only [atR] at *
    simp [stepG, stepG.exec, h'])
/-- An operation that is no deferring. -/
def Oper.quits (o : Oper) : Bool := match o.op with | .defer _ => false | _ => true
theorem stepGR_op {ops : Array Oper} {i : Nat} {rest : List Nat} {o : Oper} (ho : ops[i]? = some o) (hq : Oper.quits o = true) (hw : Region.wanted o (yielded ops a.tmps) = true) :
    stepG P true { frame := atR b l a (.inRegion ops (i :: rest) :: k), callers := cs, status := .running, dying := none } w =
      stepG.apply P true (atR b l a (.inRegion ops (i :: rest) :: k)) cs none (execOp a.eval o) w := by
  have he := atR_eval b l a (.inRegion ops (i :: rest) :: k)
  simp only [atR] at he
  obtain ⟨dst, op, type, pos, after, guard⟩ := o
  cases op <;> first
    | (simp [Oper.quits] at hq; done)
    | simp [stepG, stepG.exec, stepG.oper, Frame.oper?, atR, ho, hw, he]
end steps

/-- How a code in a round ends: at its end, on the way to a block, or to the function's end. -/
def ArrivesR (P : Program) (m : Machine) (b : Frame) (l : Nat) (k : List Item) (cs : List Frame) : Exit → Act → World → Prop
  | .normal, a, w => Steps P m (lone (atR b l a k) cs w)
  | .exit id, a, w => ∃ todo, exitTo id todo = exitTo id k ∧ Steps P m (lone (atR b l a (.code (.exit id) :: todo)) cs w)
  | .ret, a, w => ∃ todo, Steps P m (lone (atR b l a (.code .ret :: todo)) cs w)
  | _, _, _ => False
theorem ArrivesR.of_steps {P : Program} {m m₁ : Machine} {b : Frame} {l : Nat} {k : List Item} {cs : List Frame} {e : Exit} {a : Act} {w : World}
    (h : Steps P m m₁) (h' : ArrivesR P m₁ b l k cs e a w) : ArrivesR P m b l k cs e a w := by
  cases e with
  | normal => exact h.trans h'
  | exit id => obtain ⟨t, ht, hs⟩ := h'; exact ⟨t, ht, h.trans hs⟩
  | ret => obtain ⟨t, hs⟩ := h'; exact ⟨t, h.trans hs⟩
  | goto _ => exact h'.elim
  | panic _ => exact h'.elim
  | outgrown => exact h'.elim

def wpR (P : Program) (l : Nat) (c : Code) (Q : Exit → Act → World → Prop) (a : Act) (w : World) : Prop :=
  ∀ (b : Frame) (k : List Item) (cs : List Frame), b.kind = .normal →
    ∃ e a' w', Q e a' w' ∧ ArrivesR P (lone (atR b l a (.code c :: k)) cs w) b l k cs e a' w'

section rules
variable {P : Program} {l : Nat} {Q : Exit → Act → World → Prop} {a : Act} {w : World}
theorem wpR_mono {c : Code} {Q Q' : Exit → Act → World → Prop} (h : wpR P l c Q a w) (hq : ∀ e a w, Q e a w → Q' e a w) : wpR P l c Q' a w :=
  fun b k cs hb => let ⟨e, a', w', q, r⟩ := h b k cs hb; ⟨e, a', w', hq _ _ _ q, r⟩
theorem wpR_skip (h : Q .normal a w) : wpR P l .skip Q a w := fun _ _ _ _ => ⟨.normal, a, w, h, .one stepR_skip⟩
theorem wpR_exit {id : Nat} (h : Q (.exit id) a w) : wpR P l (.exit id) Q a w := fun _ k _ _ => ⟨.exit id, a, w, h, k, rfl, .refl _ _⟩
theorem wpR_ret (h : Q .ret a w) : wpR P l .ret Q a w := fun _ k _ _ => ⟨.ret, a, w, h, k, .refl _ _⟩
theorem wpR_seq {x y : Code} (h : wpR P l x (Exit.then (wpR P l y Q) Q) a w) : wpR P l (.seq x y) Q a w := by
  intro b k cs hb
  obtain ⟨e, a₁, w₁, hq, harr⟩ := h b (.code y :: k) cs hb
  cases e with
  | normal =>
    obtain ⟨e₂, a₂, w₂, hq₂, harr₂⟩ := hq b k cs hb
    exact ⟨e₂, a₂, w₂, hq₂, .of_steps (.head stepR_seq harr) harr₂⟩
  | exit id =>
    obtain ⟨t, ht, hs⟩ := harr
    exact ⟨.exit id, a₁, w₁, hq, t, ht.trans (by simp [exitTo]), .head stepR_seq hs⟩
  | ret => obtain ⟨t, hs⟩ := harr; exact ⟨.ret, a₁, w₁, hq, t, .head stepR_seq hs⟩
  | goto _ => exact harr.elim
  | panic _ => exact harr.elim
  | outgrown => exact harr.elim
theorem wpR_seq_k {x y : Code} (h : ∀ K : Act → World → Prop, (∀ a w, wpR P l y Q a w → K a w) → wpR P l x (Exit.then K Q) a w) : wpR P l (.seq x y) Q a w := wpR_seq (h _ fun _ _ h => h)
theorem wpR_cond {c : Operand} {x y : Code} {t : Bool} (hc : a.eval c = .bool t) (h : wpR P l (if t then x else y) Q a w) : wpR P l (.cond c x y) Q a w :=
  fun b k cs hb => let ⟨e, a', w', q, r⟩ := h b k cs hb; ⟨e, a', w', q, .of_steps (.one (stepR_cond hc)) r⟩
theorem wpR_block {id : Nat} {c : Code} (h : wpR P l c (Exit.inBlock id Q) a w) : wpR P l (.block id c) Q a w := by
  intro b k cs hb
  obtain ⟨e, a₁, w₁, hq, harr⟩ := h b (.inBlock id :: k) cs hb
  cases e with
  | normal => exact ⟨.normal, a₁, w₁, hq, .head stepR_block (Steps.trans harr (.one stepR_inBlock))⟩
  | exit id' =>
    obtain ⟨t, ht, hs⟩ := harr
    by_cases hid : id' = id
    · simp only [Exit.inBlock, hid, if_true] at hq
      subst hid
      have ht' : exitTo id' t = some k := ht.trans (by simp [exitTo])
      exact ⟨.normal, a₁, w₁, hq, .head stepR_block (Steps.trans hs (.one (stepR_exit ht')))⟩
    · simp only [Exit.inBlock, hid, if_false] at hq
      have : (id == id') = false := by simp; exact fun h => hid h.symm
      exact ⟨.exit id', a₁, w₁, hq, t, ht.trans (by simp [exitTo, this]), .head stepR_block hs⟩
  | ret => obtain ⟨t, hs⟩ := harr; exact ⟨.ret, a₁, w₁, hq, t, .head stepR_block hs⟩
  | goto _ => exact harr.elim
  | panic _ => exact harr.elim
  | outgrown => exact harr.elim

/-- Nothing is let out, and nothing panics. -/
def Tight (Q : Exit → Act → World → Prop) : Prop := ∀ a w, ¬ Q .outgrown a w ∧ ∀ c, ¬ Q (.panic c) a w
theorem Tight.then {K : Act → World → Prop} (h : Tight Q) : Tight (Exit.then K Q) := h
theorem Tight.block {id : Nat} (h : Tight Q) : Tight (Exit.inBlock id Q) := h

theorem wpR_ops {ops : Array Oper} (hq : ∀ o ∈ ops, Oper.quits o = true) (hT : Tight Q) (lst : List Nat) :
    ∀ (a : Act) (w : World), wpOps P ops Q lst a w → ∀ (b : Frame) (k : List Item) (cs : List Frame), b.kind = .normal →
      ∃ e a' w', Q e a' w' ∧ ArrivesR P (lone (atR b l a (.inRegion ops lst :: k)) cs w) b l k cs e a' w' := by
  induction lst with
  | nil => exact fun a w h b k cs _ => ⟨.normal, a, w, h, .one stepR_region_end⟩
  | cons i rest ih =>
    intro a w h b k cs hk
    simp only [wpOps] at h
    cases ho : ops[i]? with
    | none =>
      simp only [ho] at h
      obtain ⟨e, a', w', hq, harr⟩ := ih a w h b k cs hk
      have hs := stepR_op_skip (P := P) (b := b) (l := l) (a := a) (k := k) (cs := cs) (w := w) (ops := ops) (i := i) (rest := rest) (by simp [ho])
      simp only [ho, Option.bind_none, Act.put] at hs
      exact ⟨e, a', w', hq, .of_steps (.one hs) harr⟩
    | some o =>
      simp only [ho] at h
      have hqo := hq o (Array.mem_of_getElem? ho)
      by_cases hw : Region.wanted o (yielded ops a.tmps) = true
      · simp only [hw, if_true] at h
        rcases h with h | ⟨_, a₀, w₀, hq0⟩
        case inr => exact ((hT a₀ w₀).1 hq0).elim
        simp only [Oper.wp, Oper.upon] at h
        have hg := stepGR_op (P := P) (b := b) (l := l) (k := k) (cs := cs) (w := w) (rest := rest) ho hqo hw
        have hfin : ∀ v, (atR b l a (.inRegion ops (i :: rest) :: k)).finish v = atR b l (a.put o.dst v) (.inRegion ops rest :: k) := by
          intro v; rw [atR_finish, ho]; rfl
        split at h
        · rename_i v w' hr
          obtain ⟨e, a', w'', hq, harr⟩ := ih _ _ h b k cs hk
          refine ⟨e, a', w'', hq, .of_steps (.one (step_lone_go ?_)) harr⟩
          rw [hg, ← hfin]; simp [stepG.apply, hr]
        · rename_i w' hr
          obtain ⟨e, a', w'', hq, harr⟩ := ih _ _ h b k cs hk
          refine ⟨e, a', w'', hq, .of_steps (.one (step_lone_go ?_)) harr⟩
          rw [hg, ← hfin]; simp [stepG.apply, hr]
        · rename_i d w' hr
          obtain ⟨e, a', w'', hq, harr⟩ := ih _ _ h b k cs hk
          refine ⟨e, a', w'', hq, .of_steps (.one (step_lone_go ?_)) harr⟩
          have : ({ atR b l a (.inRegion ops (i :: rest) :: k) with defers := d :: a.defers } : Frame).finish undef =
              atR b l ({ a with defers := d :: a.defers }.put o.dst undef) (.inRegion ops rest :: k) := by
            have := atR_finish b l { a with defers := d :: a.defers } ops i rest k undef
            rw [ho] at this; exact this
          rw [hg]; simp only [stepG.apply, Sem.runT_eq, hr, GStep.bare_after]
          exact congrArg (fun fr => GStep.go { frame := fr, callers := cs, status := .running, dying := none } w') this
        · rename_i f args w' hr
          obtain ⟨e, w'', fr, hR, hsteps, _, hleave⟩ := h (atR b l a (.inRegion ops (i :: rest) :: k) :: cs)
          have henter : step P (lone (atR b l a (.inRegion ops (i :: rest) :: k)) cs w) =
              .next (lone (Frame.enter P f args .normal) (atR b l a (.inRegion ops (i :: rest) :: k) :: cs) w') :=
            step_lone_go (by rw [hg]; simp [stepG.apply, hr, atR])
          cases e with
          | returned v =>
            obtain ⟨e, a', w₃, hq, harr⟩ := ih _ _ hR b k cs hk
            refine ⟨e, a', w₃, hq, .of_steps (.head henter (hsteps.trans (.one ?_))) harr⟩
            rw [← hfin]; exact step_leave_returned hleave
          | panicked chain => exact ((hT _ _).2 _ hR).elim
          | outgrown =>
            obtain ⟨a₀, w₀, hq0⟩ := hR
            exact ((hT a₀ w₀).1 hq0).elim
        · rename_i row args w' hr
          obtain ⟨v, w'', hR, hsteps⟩ := h (atR b l a (.inRegion ops (i :: rest) :: k)) cs
          have henter : step P (lone (atR b l a (.inRegion ops (i :: rest) :: k)) cs w) =
              .next (lone (Frame.ofRow P row args .normal) (atR b l a (.inRegion ops (i :: rest) :: k) :: cs) w') :=
            step_lone_go (by rw [hg]; simp [stepG.apply, hr, atR])
          obtain ⟨e, a', w₃, hq, harr⟩ := ih _ _ hR b k cs hk
          refine ⟨e, a', w₃, hq, .of_steps (.head henter ?_) harr⟩
          rw [← hfin]; exact hsteps
        · rename_i v w' hr
          exact ((hT _ _).2 _ h).elim
        · exact h.elim
      · simp only [hw, if_false, Bool.false_eq_true] at h
        obtain ⟨e, a', w', hq, harr⟩ := ih _ _ h b k cs hk
        have hs := stepR_op_skip (P := P) (b := b) (l := l) (a := a) (k := k) (cs := cs) (w := w) (ops := ops) (i := i) (rest := rest)
          (by simp [ho]; simpa using hw)
        simp only [ho, Option.bind_some] at hs
        exact ⟨e, a', w', hq, .of_steps (.one hs) harr⟩

theorem wpR_region {id : Nat} {ops : Array Oper} (hq : ∀ o ∈ ops, Oper.quits o = true) (hT : Tight Q) (h : wpOps P ops Q (List.range ops.size) a w) : wpR P l (.region id ops false) Q a w :=
  fun b k cs hb => let ⟨e, a', w', q, r⟩ := wpR_ops hq hT _ a w h b k cs hb; ⟨e, a', w', q, .of_steps (.one stepR_region) r⟩
theorem wpR_region_draw {id : Nat} {ops : Array Oper} (hq : ∀ o ∈ ops, Oper.quits o = true) (hT : Tight Q)
    (h : ∀ t, wpOps P ops Q (Region.schedule (P.follows .mixedOrders) ops t) a { w with drawn := w.drawn + 1 }) : wpR P l (.region id ops true) Q a w :=
  fun b k cs hb => let ⟨e, a', w', q, r⟩ := wpR_ops hq hT _ a _ (h _) b k cs hb; ⟨e, a', w', q, .of_steps (.one stepR_region_draw) r⟩
end rules

/-! ### A round, whole -/

/-- A round of a loop: what it hands back, and the world behind it. -/
def Rounds (P : Program) (l : Nat) (fn : FuncId) (tmps : Array Value) (assign body : Code) (w : World) (R : Bool → World → Prop) : Prop :=
  ∀ (c : Frame) (cs : List Frame), ∃ b w', R b w' ∧ Steps P (lone (Frame.round l fn tmps assign body .normal) (c :: cs) w) (lone (c.finish (.bool b)) cs w')

/-- Block l is a loop. -/
def LoopAt (w : World) (l : Nat) (L : Loop) : Prop := w.heap[l]? = some (.loop L)
/-- A world whose block l is a loop. -/
def putLoop (w : World) (l : Nat) (L : Loop) : World := { w with heap := w.heap.setIfInBounds l (.loop L) }

section rounds
variable {P : Program} {l : Nat}
theorem run_getObj_loop {w : World} {L : Loop} (h : LoopAt w l L) : (getObj l).run P w = .ok (.loop L) w := by
  unfold LoopAt at h; simp [getObj, Sem.run, h]
theorem run_setObj_loop {w : World} {L : Loop} (h : LoopAt w l L) (L' : Loop) : (setObj l (.loop L')).run P w = .ok () (putLoop w l L') := by
  unfold LoopAt at h; simp [setObj, Sem.run, h, putLoop]

/-- What a round leaves of its loop, by how it ended. -/
def roundEnd (L : Loop) (jump : Option Code) : Loop := { L with state := if jump.isNone then .ready else .done, pending := jump }

theorem run_endRound {w : World} {L : Loop} (h : LoopAt w l L) (jump : Option Code) : (Instr.endRound l jump).run P w = .ok (.bool jump.isNone) (putLoop w l (roundEnd L jump)) := by
  simp [Instr.endRound, Instr.getLoop, run_getObj_loop h, run_setObj_loop h, roundEnd]
theorem run_beginRound {w : World} {L : Loop} (h : LoopAt w l L) (hs : L.state = .ready) : (Instr.beginRound l).run P w = .ok () (putLoop w l { L with state := .busy }) := by
  simp [Instr.beginRound, Instr.getLoop, run_getObj_loop h, run_setObj_loop h, hs]

theorem stepR_begin {b : Frame} {a : Act} {k : List Item} {cs : List Frame} {w : World} {L : Loop} (h : LoopAt w l L) (hs : L.state = .ready) :
    step P (lone (atR b l a (.beginRound :: k)) cs w) = .next (lone (atR b l a k) cs (putLoop w l { L with state := .busy })) :=
  step_lone_go (by
    simp [stepG, stepG.exec, atR, stepG.apply, run_beginRound (P := P) h hs, Frame.finish])

theorem stepR_end {b c : Frame} {a : Act} {cs : List Frame} {w : World} {L : Loop} (hb : b.kind = .normal) (h : LoopAt w l L) :
    step P (lone (atR b l a []) (c :: cs) w) = .next (lone (c.finish (.bool true)) cs (putLoop w l (roundEnd L none))) :=
  step_lone_go (by
    simp [stepG, stepG.exec, atR, run_endRound (P := P) h, doReturn, hb])
theorem stepR_leave_exit {b c : Frame} {a : Act} {id : Nat} {k : List Item} {cs : List Frame} {w : World} {L : Loop} (hb : b.kind = .normal) (h : LoopAt w l L) (hk : exitTo id k = none) :
    step P (lone (atR b l a (.code (.exit id) :: k)) (c :: cs) w) = .next (lone (c.finish (.bool false)) cs (putLoop w l (roundEnd L (some (.exit id))))) :=
  step_lone_go (by
    simp [stepG, stepG.exec, atR, hk, run_endRound (P := P) h, doReturn, hb])
theorem stepR_leave_ret {b c : Frame} {a : Act} {k : List Item} {cs : List Frame} {w : World} {L : Loop} (hb : b.kind = .normal) (h : LoopAt w l L) :
    step P (lone (atR b l a (.code .ret :: k)) (c :: cs) w) = .next (lone (c.finish (.bool false)) cs (putLoop w l (roundEnd L (some .ret)))) :=
  step_lone_go (by
    simp [stepG, stepG.exec, atR, run_endRound (P := P) h, doReturn, hb])

/-- How a round's body may end. -/
def roundPost (l : Nat) (R : Bool → World → Prop) : Exit → Act → World → Prop
  | .normal, _, w => ∃ L, LoopAt w l L ∧ R true (putLoop w l (roundEnd L none))
  | .exit id, _, w => ∃ L, LoopAt w l L ∧ R false (putLoop w l (roundEnd L (some (.exit id))))
  | .ret, _, w => ∃ L, LoopAt w l L ∧ R false (putLoop w l (roundEnd L (some .ret)))
  | _, _, _ => False
theorem roundPost_tight (l : Nat) (R : Bool → World → Prop) : Tight (roundPost l R) := fun _ _ => ⟨id, fun _ => id⟩

theorem rounds_of_wp {fn : FuncId} {tmps : Array Value} {assign body : Code} {w : World} {R : Bool → World → Prop}
    (h : wpR P l assign (fun e a w1 => e = .normal ∧ ∃ L, LoopAt w1 l L ∧ L.state = .ready ∧ wpR P l body (roundPost l R) a (putLoop w1 l { L with state := .busy })) { tmps, defers := [] } w) :
    Rounds P l fn tmps assign body w R := by
  intro c cs
  let b : Frame := { (default : Frame) with fn := fn, kind := .normal }
  have e0 : Frame.round l fn tmps assign body .normal = atR b l { tmps, defers := [] } [.code assign, .beginRound, .code body] := rfl
  rw [e0]
  obtain ⟨e, a1, w1, ⟨rfl, L, hL, hs, hbody⟩, harr⟩ := h b [.beginRound, .code body] (c :: cs) rfl
  obtain ⟨e2, a2, w2, hq, harr2⟩ := hbody b [] (c :: cs) rfl
  have hpre := Steps.trans harr (.one (stepR_begin (P := P) (b := b) (a := a1) (k := [.code body]) (cs := c :: cs) hL hs))
  cases e2 with
  | normal =>
    obtain ⟨L2, hL2, hR⟩ := hq
    exact ⟨true, _, hR, hpre.trans (Steps.trans harr2 (.one (stepR_end rfl hL2)))⟩
  | exit id =>
    obtain ⟨L2, hL2, hR⟩ := hq
    obtain ⟨t, ht, hs2⟩ := harr2
    exact ⟨false, _, hR, hpre.trans (Steps.trans hs2 (.one (stepR_leave_exit rfl hL2 (ht.trans rfl))))⟩
  | ret =>
    obtain ⟨L2, hL2, hR⟩ := hq
    obtain ⟨t, hs2⟩ := harr2
    exact ⟨false, _, hR, hpre.trans (Steps.trans hs2 (.one (stepR_leave_ret rfl hL2)))⟩
  | goto _ => exact harr2.elim
  | panic _ => exact harr2.elim
  | outgrown => exact harr2.elim
end rounds

/-! ### The call of a loop's own function, among a region's operations -/

/-- The operation calls a loop's own function. -/
def YieldAt (P : Program) (o : Oper) (a : Act) (w : World) (next : Act → World → Prop) : Prop :=
  ∃ l fn tmps asg body w1, (execOp a.eval o).run P w = .ok (.round l fn tmps asg body) w1 ∧ Rounds P l fn tmps asg body w1 fun b w' => next (a.put o.dst (.bool b)) w'

def wpListY (P : Program) (ops : Array Oper) (Q : Exit → Act → World → Prop) : List Oper → Act → World → Prop
  | [], a, w => Q .normal a w
  | o :: rest, a, w =>
    if Region.wanted o (yielded ops a.tmps) then (o.wp P a w (wpListY P ops Q rest) Q ∨ (o.asks P a w ∧ LetsOut Q)) ∨ YieldAt P o a w (wpListY P ops Q rest)
    else wpListY P ops Q rest (a.put o.dst undef) w

section yields
variable {P : Program} {ops : Array Oper} {Q : Exit → Act → World → Prop}
theorem wpListY_of (hT : Tight Q) (l2 : List Oper) : ∀ (l1 : List Oper) (a : Act) (w : World), wpList P ops (Exit.then (wpListY P ops Q l2) Q) l1 a w → wpListY P ops Q (l1 ++ l2) a w
  | [], _, _, h => h
  | o :: rest, a, w, h => by
    simp only [wpList] at h
    simp only [List.cons_append, wpListY]
    split
    · rename_i hw
      simp only [hw, if_true] at h
      rcases h with h | ⟨_, a0, w0, hq⟩
      · refine .inl (.inl ?_)
        simp only [Oper.wp, Oper.upon] at h ⊢
        split at h
        · exact wpListY_of hT l2 rest _ _ h
        · exact wpListY_of hT l2 rest _ _ h
        · exact wpListY_of hT l2 rest _ _ h
        · refine h.mono fun e w' hr => ?_
          cases e with
          | returned v => exact wpListY_of hT l2 rest _ _ hr
          | panicked ch => exact hr
          | outgrown => exact hr
        · exact h.mono fun v w' hr => wpListY_of hT l2 rest _ _ hr
        · exact h
        · exact h.elim
      · exact ((hT a0 w0).1 hq).elim
    · rename_i hw
      simp only [hw] at h
      exact wpListY_of hT l2 rest _ _ h

theorem wp_listY (lst : List Oper) : ∀ (n : Nat) (_ : ∀ j, lst[j]? = ops[n + j]?) (a : Act) (w : World), wpListY P ops Q lst a w → ∀ (b : Frame) (k : List Item) (cs : List Frame),
      ∃ e a' w', Q e a' w' ∧ Arrives P (lone (b.at a (.inRegion ops (List.range' n lst.length) :: k)) cs w) b k cs e a' w' := by
  induction lst with
  | nil => exact fun n _ a w h b k cs => ⟨.normal, a, w, h, .one step_region_end⟩
  | cons o rest ih =>
    intro n hn a w h b k cs
    have ho : ops[n]? = some o := by have := hn 0; simpa using this.symm
    have hn' : ∀ j, rest[j]? = ops[n + 1 + j]? := fun j => by have := hn (j + 1); simpa [Nat.add_assoc, Nat.add_comm 1 j] using this
    simp only [List.length_cons, List.range'_succ]
    simp only [wpListY] at h
    by_cases hw : Region.wanted o (yielded ops a.tmps) = true
    · simp only [hw, if_true] at h
      have hg := stepG_op (P := P) (b := b) (k := k) (cs := cs) (w := w) (rest := List.range' (n + 1) rest.length) ho hw
      have hfin : ∀ v, (b.at a (.inRegion ops (n :: List.range' (n + 1) rest.length) :: k)).finish v = b.at (a.put o.dst v) (.inRegion ops (List.range' (n + 1) rest.length) :: k) := by
        intro v; rw [Frame.finish_at, ho]; rfl
      rcases h with (h | ⟨hasks, a₀, w₀, hq⟩) | ⟨l, fn, tmps, asg, body, w1, hr, hR⟩
      · simp only [Oper.wp, Oper.upon] at h
        split at h
        · rename_i v w' hr
          obtain ⟨e, a', w'', hq, harr⟩ := ih _ hn' _ _ h b k cs
          refine ⟨e, a', w'', hq, .of_steps (.one (step_lone_go ?_)) harr⟩
          rw [hg, ← hfin]; simp [stepG.apply, hr]
        · rename_i w' hr
          obtain ⟨e, a', w'', hq, harr⟩ := ih _ hn' _ _ h b k cs
          refine ⟨e, a', w'', hq, .of_steps (.one (step_lone_go ?_)) harr⟩
          rw [hg, ← hfin]; simp [stepG.apply, hr]
        · rename_i d w' hr
          obtain ⟨e, a', w'', hq, harr⟩ := ih _ hn' _ _ h b k cs
          refine ⟨e, a', w'', hq, .of_steps (.one (step_lone_go ?_)) harr⟩
          have : ({ b.at a (.inRegion ops (n :: List.range' (n + 1) rest.length) :: k) with defers := d :: a.defers } : Frame).finish undef =
              b.at ({ a with defers := d :: a.defers }.put o.dst undef) (.inRegion ops (List.range' (n + 1) rest.length) :: k) := by
            have := Frame.finish_at b { a with defers := d :: a.defers } ops n (List.range' (n + 1) rest.length) k undef
            rw [ho] at this; exact this
          rw [hg]; simp only [stepG.apply, Sem.runT_eq, hr, GStep.bare_after]
          exact congrArg (fun fr => GStep.go { frame := fr, callers := cs, status := .running, dying := none } w') this
        · rename_i f args w' hr
          obtain ⟨e, w'', fr, hR, hsteps, _, hleave⟩ := h (b.at a (.inRegion ops (n :: List.range' (n + 1) rest.length) :: k) :: cs)
          have henter : step P (lone (b.at a (.inRegion ops (n :: List.range' (n + 1) rest.length) :: k)) cs w) =
              .next (lone (Frame.enter P f args .normal) (b.at a (.inRegion ops (n :: List.range' (n + 1) rest.length) :: k) :: cs) w') :=
            step_lone_go (by rw [hg]; simp [stepG.apply, hr, Frame.at])
          cases e with
          | returned v =>
            obtain ⟨e, a', w₃, hq, harr⟩ := ih _ hn' _ _ hR b k cs
            refine ⟨e, a', w₃, hq, .of_steps (.head henter (hsteps.trans (.one ?_))) harr⟩
            rw [← hfin]; exact step_leave_returned hleave
          | panicked chain =>
            refine ⟨.panic chain, a, w'', hR, .inRegion ops (n :: List.range' (n + 1) rest.length) :: k, .head henter (hsteps.trans (.one ?_))⟩
            rw [← Frame.raise_at]; exact step_leave_panicked hleave
          | outgrown =>
            obtain ⟨a₀, w₀, hq⟩ := hR
            exact ⟨.outgrown, a₀, w₀, hq, .inr (Outgrown.of_steps (.one henter) hsteps)⟩
        · rename_i row args w' hr
          obtain ⟨v, w'', hR, hsteps⟩ := h (b.at a (.inRegion ops (n :: List.range' (n + 1) rest.length) :: k)) cs
          have henter : step P (lone (b.at a (.inRegion ops (n :: List.range' (n + 1) rest.length) :: k)) cs w) =
              .next (lone (Frame.ofRow P row args .normal) (b.at a (.inRegion ops (n :: List.range' (n + 1) rest.length) :: k) :: cs) w') :=
            step_lone_go (by rw [hg]; simp [stepG.apply, hr, Frame.at])
          obtain ⟨e, a', w₃, hq, harr⟩ := ih _ hn' _ _ hR b k cs
          refine ⟨e, a', w₃, hq, .of_steps (.head henter ?_) harr⟩
          rw [← hfin]; exact hsteps
        · rename_i v w' hr
          refine ⟨_, a, w', h, .inRegion ops (n :: List.range' (n + 1) rest.length) :: k, .one (step_lone_go ?_)⟩
          rw [hg, ← Frame.raise_at]; simp [stepG.apply, hr]
        · exact h.elim
      · by_cases hk : b.kind = .early
        · exact ⟨.outgrown, a₀, w₀, hq, .inl hk⟩
        · exact ⟨.outgrown, a₀, w₀, hq, .inr (asks_outgrown ho hw hk hasks)⟩
      · obtain ⟨bb, w2, hnext, hsteps⟩ := hR (b.at a (.inRegion ops (n :: List.range' (n + 1) rest.length) :: k)) cs
        have henter : step P (lone (b.at a (.inRegion ops (n :: List.range' (n + 1) rest.length) :: k)) cs w) =
            .next (lone (Frame.round l fn tmps asg body .normal) (b.at a (.inRegion ops (n :: List.range' (n + 1) rest.length) :: k) :: cs) w1) :=
          step_lone_go (by rw [hg]; simp [stepG.apply, hr, Frame.at])
        obtain ⟨e, a', w₃, hq, harr⟩ := ih _ hn' _ _ hnext b k cs
        refine ⟨e, a', w₃, hq, .of_steps (.head henter ?_) harr⟩
        rw [← hfin]; exact hsteps
    · simp only [hw, if_false, Bool.false_eq_true] at h
      obtain ⟨e, a', w', hq, harr⟩ := ih _ hn' _ _ h b k cs
      have hs := step_op_skip (P := P) (b := b) (a := a) (k := k) (cs := cs) (w := w) (ops := ops) (i := n) (rest := List.range' (n + 1) rest.length)
        (by simp [ho]; simpa using hw)
      simp only [ho, Option.bind_some] at hs
      exact ⟨e, a', w', hq, .of_steps (.one hs) harr⟩

/-- A region (in the order of its text) with a call of a loop's own function in it: first what stands ahead of that call. -/
theorem wp_region_yield {id : Nat} {l1 l2 : List Oper} {o : Oper} {a : Act} {w : World} (hT : Tight Q)
    (h : ∀ K : Act → World → Prop, (∀ a w, wpListY P (l1 ++ o :: l2).toArray Q (o :: l2) a w → K a w) → wpList P (l1 ++ o :: l2).toArray (Exit.then K Q) l1 a w) :
    (Code.region id (l1 ++ o :: l2).toArray false).wp P Q a w := by
  intro b k cs
  have h1 := wpListY_of hT (o :: l2) l1 a w (h _ fun _ _ h => h)
  obtain ⟨e, a', w', hq, harr⟩ := wp_listY (P := P) (ops := (l1 ++ o :: l2).toArray) (Q := Q) (l1 ++ o :: l2) 0 (fun j => by simp) a w h1 b k cs
  refine ⟨e, a', w', hq, .of_steps (.one step_region) ?_⟩
  rw [List.range_eq_range']
  simpa using harr
/-- What comes by no jump. -/
def onlyN (K : Act → World → Prop) (e : Exit) (a : Act) (w : World) : Prop := e = .normal ∧ K a w
theorem onlyN_tight (K : Act → World → Prop) : Tight (onlyN K) := fun _ _ => ⟨fun h => (by cases h.1), fun _ h => (by cases h.1)⟩
theorem wp_region_yield_k {id : Nat} {l1 l2 : List Oper} {o : Oper} {a : Act} {w : World} {K : Act → World → Prop}
    (h : ∀ K' : Act → World → Prop, (∀ a w, wpListY P (l1 ++ o :: l2).toArray (onlyN K) (o :: l2) a w → K' a w) → wpList P (l1 ++ o :: l2).toArray (Exit.then K' (onlyN K)) l1 a w) :
    (Code.region id (l1 ++ o :: l2).toArray false).wp P (Exit.then K Q) a w := by
  refine wp_mono (wp_region_yield (onlyN_tight K) h) ?_
  rintro e a' w' ⟨rfl, h⟩
  exact h
theorem wpListY_yield {o : Oper} {l2 : List Oper} {a : Act} {w : World} (hw : Region.wanted o (yielded ops a.tmps) = true) (h : YieldAt P o a w (wpListY P ops Q l2)) : wpListY P ops Q (o :: l2) a w := by
  simp only [wpListY, hw, if_true]; exact .inr h
theorem wpListY_skip {o : Oper} {l2 : List Oper} {a : Act} {w : World} (hw : Region.wanted o (yielded ops a.tmps) = false) (h : wpListY P ops Q l2 (a.put o.dst undef) w) : wpListY P ops Q (o :: l2) a w := by
  simp only [wpListY, hw]; exact h
/-- What stands behind such calls. -/
theorem wpListY_last (hT : Tight Q) (lst : List Oper) {a : Act} {w : World} (h : wpList P ops Q lst a w) : wpListY P ops Q lst a w := by
  have := wpListY_of (P := P) (ops := ops) hT [] lst a w ?_
  · simpa using this
  · have e : (Exit.then (wpListY P ops Q []) Q) = Q := by funext e; cases e <;> rfl
    rw [e]; exact h
end yields

/-- A region (in the order of its text) in a round, walked as the kit walks regions. -/
theorem wpR_region_lit {P : Program} {l : Nat} {id : Nat} {ops : List Oper} {Q : Exit → Act → World → Prop} {a : Act} {w : World} (hq : ops.all Oper.quits = true) (h : wpList P ops.toArray (onlyN (Q .normal)) ops a w) : wpR P l (.region id ops.toArray false) Q a w := by
  refine wpR_mono (wpR_region (by simpa using (List.all_eq_true.1 hq)) (onlyN_tight _) ?_) (Q := onlyN (Q .normal)) ?_
  · have := wpOps_eq_wpList (P := P) (ops := ops.toArray) (Q := onlyN (Q .normal)) ops 0 (fun j => by simp)
    rw [List.range_eq_range']
    simpa using (congrFun (congrFun this a) w).mpr h
  · rintro e a' w' ⟨rfl, h⟩
    exact h

/-- What comes of handing values to a loop's own function. -/
def YieldsTo (P : Program) (l : Nat) (args : Array Value) (w : World) (R : Bool → World → Prop) : Prop :=
  ∃ L, LoopAt w l L ∧ args.size = L.params.size ∧ Rounds P l L.fn ((L.params.zip args).foldl (fun tmps (t, a) => tmps.setIfInBounds t a) L.tmps) L.assign L.body w R

theorem Rounds.mono {P : Program} {l : Nat} {fn : FuncId} {tmps : Array Value} {assign body : Code} {w : World} {R R' : Bool → World → Prop} (h : Rounds P l fn tmps assign body w R) (hR : ∀ b w', R b w' → R' b w') : Rounds P l fn tmps assign body w R' :=
  fun c cs => let ⟨b, w', hr, hs⟩ := h c cs; ⟨b, w', hR _ _ hr, hs⟩
theorem YieldsTo.mono {P : Program} {l : Nat} {args : Array Value} {w : World} {R R' : Bool → World → Prop} (h : YieldsTo P l args w R) (hR : ∀ b w', R b w' → R' b w') : YieldsTo P l args w R' :=
  let ⟨L, h1, h2, h3⟩ := h; ⟨L, h1, h2, h3.mono hR⟩

theorem yieldsTo_one {P : Program} {l : Nat} {L : Loop} {t : Tmp} {x : Value} {w : World} {R : Bool → World → Prop} (h : LoopAt w l L) (hp : L.params = #[t])
    (hr : wpR P l L.assign (fun e a w1 => e = .normal ∧ ∃ L', LoopAt w1 l L' ∧ L'.state = .ready ∧ wpR P l L.body (roundPost l R) a (putLoop w1 l { L' with state := .busy })) { tmps := L.tmps.setIfInBounds t x, defers := [] } w) : YieldsTo P l #[x] w R := by
  refine ⟨L, h, by rw [hp]; rfl, ?_⟩
  rw [hp]
  have e : (#[t].zip #[x]).foldl (fun (tmps : Array Value) (p : Tmp × Value) => match p with | (t, a) => tmps.setIfInBounds t a) L.tmps = L.tmps.setIfInBounds t x := by simp
  rw [e]
  exact rounds_of_wp hr

section
variable {P : Program} {ops : Array Oper} {Q : Exit → Act → World → Prop}
theorem run_yield {w : World} {l : Nat} {L : Loop} (h : LoopAt w l L) {args : Array Value} (hs : args.size = L.params.size) :
    (Instr.yield l args).run P w = .ok (.round l L.fn ((L.params.zip args).foldl (fun tmps (t, a) => tmps.setIfInBounds t a) L.tmps) L.assign L.body) w := by
  simp [Instr.yield, Instr.getLoop, run_getObj_loop h, hs]
theorem wpListY_call {o : Oper} {l2 : List Oper} {a : Act} {w : World} {l : Nat} {f : Operand} {args : Array Operand} {ts : Array TypeId} (hw : Region.wanted o (yielded ops a.tmps) = true)
    (ho : o.op = .call { callee := .value f, args := args, argTypes := ts }) (hf : a.eval f = .func (.yield l) #[] #[])
    {vs : Array Value} (hvs : args.map a.eval = vs) (h : YieldsTo P l vs w fun b w' => wpListY P ops Q l2 (a.put o.dst (.bool b)) w') : wpListY P ops Q (o :: l2) a w := by
  subst hvs
  obtain ⟨L, hL, hs, hR⟩ := h
  refine wpListY_yield hw ⟨l, _, _, _, _, w, ?_, hR⟩
  simp [execOp, ho, resolve, hf, Deferred.ofValue, invoke, run_yield hL hs]
end

/-! ### The loop -/

/-- The loop that is laid at the beginning, of a frame of function fn. -/
def newLoop (fn : FuncId) (tmps : Array Value) (params : Array Tmp) (assign body : Code) (r : Nat) : Loop :=
  { state := .ready, pending := none, fn, tmps, params, assign, body, defers := r }
/-- The world in which the function that is ranged over is called. -/
def loopWorld (w : World) (fn : FuncId) (tmps : Array Value) (params : Array Tmp) (assign body : Code) : World :=
  (w.alloc (.deferred (some []))).alloc (.loop (newLoop fn tmps params assign body w.heap.size))
/-- The mark among what is deferred. -/
def markOfLoop (r : Nat) : Deferred := { target := .collected r, args := #[] }

theorem LoopAt.lt {w : World} {l : Nat} {L : Loop} (h : LoopAt w l L) : l < w.heap.size := by
  rcases Nat.lt_or_ge l w.heap.size with hlt | hge
  · exact hlt
  · unfold LoopAt at h; rw [Array.getElem?_eq_none hge] at h; cases h
theorem putLoop_heap (w : World) (l : Nat) (L : Loop) (i : Nat) (hi : i ≠ l) : (putLoop w l L).heap[i]? = w.heap[i]? := by
  show (w.heap.setIfInBounds l _)[i]? = _
  rw [Array.getElem?_setIfInBounds_ne (Ne.symm hi)]
theorem putLoop_size (w : World) (l : Nat) (L : Loop) : (putLoop w l L).heap.size = w.heap.size := by simp [putLoop]
theorem putLoop_at {w : World} {l : Nat} (h : l < w.heap.size) (L : Loop) : LoopAt (putLoop w l L) l L := by
  show (w.heap.setIfInBounds l _)[l]? = _
  rw [Array.getElem?_setIfInBounds_self_of_lt h]
theorem putLoop_below {B : Nat} {a w : World} {l : Nat} (h : Below B a w) (hl : B ≤ l) (L : Loop) : Below B a (putLoop w l L) :=
  ⟨h.os, h.tape, h.output, by rw [putLoop_size]; exact h.size, fun i hi => (putLoop_heap w l L i (by omega)).trans (h.block i hi)⟩
theorem loopWorld_facts (w : World) (fn : FuncId) (tmps : Array Value) (params : Array Tmp) (assign body : Code) :
    LoopAt (loopWorld w fn tmps params assign body) (w.heap.size + 1) (newLoop fn tmps params assign body w.heap.size) ∧ (loopWorld w fn tmps params assign body).heap[w.heap.size]? = some (.deferred (some [])) ∧
      Below w.heap.size w (loopWorld w fn tmps params assign body) ∧ (loopWorld w fn tmps params assign body).heap.size = w.heap.size + 1 + 1 := by
  refine ⟨?_, ?_, ?_, ?_⟩
  · show ((w.heap.push _).push _)[w.heap.size + 1]? = _
    rw [Array.getElem?_push, if_pos (by simp)]
  · show ((w.heap.push _).push _)[w.heap.size]? = _
    rw [Array.getElem?_push, if_neg (by simp), Array.getElem?_push, if_pos rfl]
  · exact ((Below.refl _ _).alloc (Nat.le_refl _) _).alloc (by simp) _
  · show ((w.heap.push _).push _).size = _
    simp

/-- How a loop ends: its own block says how it was left. -/
def loopPost (w : World) (a : Act) (Q : Exit → Act → World → Prop) (w' : World) : Prop :=
  ∃ L, LoopAt w' (w.heap.size + 1) L ∧ L.state ≠ .busy ∧
    match L.pending with
    | none => Q .normal { a with defers := markOfLoop w.heap.size :: a.defers } (putLoop w' (w.heap.size + 1) { L with state := .exhausted })
    | some (.exit id) => Q (.exit id) { a with defers := markOfLoop w.heap.size :: a.defers } (putLoop w' (w.heap.size + 1) { L with state := .exhausted })
    | some .ret => Q .ret { a with defers := markOfLoop w.heap.size :: a.defers } (putLoop w' (w.heap.size + 1) { L with state := .exhausted })
    | some _ => False

section
variable {P : Program} {Q : Exit → Act → World → Prop} {a : Act} {w : World}
theorem run_enterLoop (fn : FuncId) (tmps : Array Value) (params : Array Tmp) (assign body : Code) :
    (Instr.enterLoop fn tmps params assign body none).run P w = .ok (w.heap.size + 1, [markOfLoop w.heap.size]) (loopWorld w fn tmps params assign body) := by
  have e : (w.heap.push (Obj.deferred (some []))).size = w.heap.size + 1 := by simp
  show Result.ok ((w.heap.push (Obj.deferred (some []))).size, [markOfLoop w.heap.size]) (loopWorld w fn tmps params assign body) = _
  rw [e]
theorem run_callFunc_enter {g : FuncId} {fn : Func} (hf : P.funcs[g]? = some fn) (hname : (fn.name == "runtime.NumGoroutine") = false) (hb : fn.body.isNone = false) (args : Array Value) (w : World) : (callFunc g args).run P w = .ok (.enter g args) w := by
  have h1 : ¬ fn.name = "runtime.NumGoroutine" := by simpa using hname
  have h2 : ¬ fn.body = none := by intro e; rw [e] at hb; cases hb
  simp [callFunc, hf, h1, h2]
theorem run_endLoop {l : Nat} {L : Loop} (h : LoopAt w l L) (hs : L.state ≠ .busy) : (Instr.endLoop l).run P w = .ok L.pending (putLoop w l { L with state := .exhausted }) := by
  simp [Instr.endLoop, Instr.getLoop, run_getObj_loop h, run_setObj_loop h, hs]

theorem wp_rangeFunc {f : Operand} {params : Array Tmp} {assign body : Code} {g : FuncId} {first cap : Array Value}
    (hf : a.eval f = .func (.func g) first cap) {gn : Func} (hg : P.funcs[g]? = some gn) (hname : (gn.name == "runtime.NumGoroutine") = false) (hbody : gn.body.isNone = false)
    (h : ∀ fn, Calls P g (first ++ #[.func (.yield (w.heap.size + 1)) #[] #[]] ++ cap) (loopWorld w fn a.tmps params assign body) fun e w' => ∃ v, e = .returned v ∧ loopPost w a Q w') :
    (Code.rangeFunc f params assign body).wp P Q a w := by
  intro b k cs
  let F : Frame := b.at { a with defers := markOfLoop w.heap.size :: a.defers } (.inRangeFunc (w.heap.size + 1) :: k)
  obtain ⟨e, w', fr, ⟨v, rfl, L, hL, hs, hQ⟩, hsteps, _, hleave⟩ := h b.fn (F :: cs)
  have henter : step P (lone (b.at a (.code (.rangeFunc f params assign body) :: k)) cs w) =
      .next (lone (Frame.enter P g (first ++ #[.func (.yield (w.heap.size + 1)) #[] #[]] ++ cap) .normal) (F :: cs) (loopWorld w b.fn a.tmps params assign body)) :=
    step_lone_go (by
      have he : ({ b.at { a with defers := markOfLoop w.heap.size :: a.defers } (.inRangeFunc (w.heap.size + 1) :: k) with } : Frame).eval f = .func (.func g) first cap := by
        rw [← hf]; cases f <;> rfl
      simp only [Frame.at] at he
      have hy : ∀ F' : Frame, F'.eval (.const (.func (.yield (w.heap.size + 1)) #[] #[])) = .func (.yield (w.heap.size + 1)) #[] #[] := fun _ => rfl
      simp [stepG, stepG.exec, Frame.at, run_enterLoop, stepG.apply, resolve, he, Deferred.ofValue, invoke, run_callFunc_enter hg hname hbody, hy, F])
  have hback : step P (lone fr (F :: cs) w') = .next (lone (b.at { a with defers := markOfLoop w.heap.size :: a.defers } (.endRangeFunc (w.heap.size + 1) :: k)) cs w') := step_leave_returned hleave
  have hend : step P (lone (b.at { a with defers := markOfLoop w.heap.size :: a.defers } (.endRangeFunc (w.heap.size + 1) :: k)) cs w') =
      .next (lone (b.at { a with defers := markOfLoop w.heap.size :: a.defers } ((L.pending.map Item.code).toList ++ k)) cs (putLoop w' (w.heap.size + 1) { L with state := .exhausted })) :=
    step_lone_go (by simp [stepG, stepG.exec, Frame.at, run_endLoop (P := P) hL hs])
  have hall := Steps.head henter (hsteps.trans (.head hback (.one hend)))
  cases hp : L.pending with
  | none =>
    rw [hp] at hQ hall
    exact ⟨.normal, _, _, hQ, hall⟩
  | some c =>
    rw [hp] at hQ hall
    cases c with
    | exit id => exact ⟨.exit id, _, _, hQ, fun k' hk => hall.trans (.one (step_exit hk))⟩
    | ret => exact ⟨.ret, _, _, hQ, _, hall.trans (.one step_ret)⟩
    | _ => exact hQ.elim
end

/-- The same, the world at the call told by what it holds. -/
theorem wp_rangeFunc_new {P : Program} {Q : Exit → Act → World → Prop} {a : Act} {w : World} {f : Operand} {params : Array Tmp} {assign body : Code} {g : FuncId} {first cap : Array Value}
    (hf : a.eval f = .func (.func g) first cap) {gn : Func} (hg : P.funcs[g]? = some gn) (hname : (gn.name == "runtime.NumGoroutine") = false) (hbody : gn.body.isNone = false)
    (h : ∀ fn W1 L, L = newLoop fn a.tmps params assign body w.heap.size → LoopAt W1 (w.heap.size + 1) L → W1.heap[w.heap.size]? = some (.deferred (some [])) → Below w.heap.size w W1 →
      Calls P g (first ++ #[.func (.yield (w.heap.size + 1)) #[] #[]] ++ cap) W1 fun e w' => ∃ v, e = .returned v ∧ loopPost w a Q w') :
    (Code.rangeFunc f params assign body).wp P Q a w :=
  wp_rangeFunc hf hg hname hbody fun fn =>
    let ⟨f1, f2, f3, _⟩ := loopWorld_facts w fn a.tmps params assign body
    h fn _ _ rfl f1 f2 f3
/-- A round that ends as it began leaves its loop as it was. -/
theorem roundEnd_busy {L : Loop} (hs : L.state = .ready) (hp : L.pending = none) : roundEnd { L with state := .busy } none = L := by
  cases L; simp only at hs hp; subst hs; subst hp; rfl

/-! ### A function that leaves behind its loops -/

/-- A world whose block r has given its deferred calls. -/
def taken (w : World) (r : Nat) : World := { w with heap := w.heap.setIfInBounds r (.deferred none) }
def takenAll : List Nat → World → World
  | [], w => w
  | r :: rs, w => takenAll rs (taken w r)
/-- The blocks hold no deferred calls, but none has been taken. -/
def Marks (rs : List Nat) (w : World) : Prop := rs.Nodup ∧ ∀ r ∈ rs, w.heap[r]? = some (.deferred (some []))

section
variable {P : Program}
theorem run_takeDeferred {w : World} {r : Nat} (h : w.heap[r]? = some (.deferred (some []))) : (Instr.takeDeferred r).run P w = .ok [] (taken w r) := by
  simp [Instr.takeDeferred, getObj, setObj, Sem.run, h, taken]
theorem step_take {fr : Frame} {cs : List Frame} {w : World} {r : Nat} {ds : List Deferred} (hm : fr.mode = .returning) (hd : fr.defers = markOfLoop r :: ds) (h : w.heap[r]? = some (.deferred (some []))) :
    step P (lone fr cs w) = .next (lone { fr with defers := ds } cs (taken w r)) :=
  step_lone_go (by
    simp [stepG, unwind, hm, hd, markOfLoop, run_takeDeferred (P := P) h])
theorem steps_take {fr : Frame} {cs : List Frame} : ∀ (rs : List Nat) (w : World), fr.mode = .returning → Marks rs w →
    Steps P (lone { fr with defers := rs.map markOfLoop } cs w) (lone { fr with defers := [] } cs (takenAll rs w))
  | [], w, _, _ => .refl _ _
  | r :: rs, w, hm, ⟨hn, hr⟩ => by
    have h1 := step_take (P := P) (fr := { fr with defers := (r :: rs).map markOfLoop }) (cs := cs) (w := w) (r := r) (ds := rs.map markOfLoop) hm rfl (hr r (.head _))
    refine .head h1 (steps_take rs _ hm ⟨(List.nodup_cons.1 hn).2, fun x hx => ?_⟩)
    have hne : x ≠ r := fun e => (List.nodup_cons.1 hn).1 (e ▸ hx)
    show (w.heap.setIfInBounds r _)[x]? = _
    rw [Array.getElem?_setIfInBounds_ne (Ne.symm hne)]
    exact hr x (.tail _ hx)

def bodyPostC (P : Program) (fn : Func) (R : Ending → World → Prop) : Exit → Act → World → Prop
  | .normal, a, w | .ret, a, w => ∃ rs, a.defers = rs.map markOfLoop ∧ Marks rs w ∧ ∃ v, (results fn a.tmps).run P (takenAll rs w) = .ok v (takenAll rs w) ∧ R (.returned v) (takenAll rs w)
  | _, _, _ => False
theorem bodyPostC_tight (P : Program) (fn : Func) (R : Ending → World → Prop) : Tight (bodyPostC P fn R) := fun _ _ => ⟨id, fun _ => id⟩

theorem callsC_of_wp {f : FuncId} {fn : Func} {c : Code} {args : Array Value} {w : World} {R : Ending → World → Prop}
    (hf : P.funcs[f]? = some fn) (hb : fn.body = some c)
    (h : c.wp P (bodyPostC P fn R) { tmps := args ++ Array.replicate (fn.ntmps - args.size) undef, defers := [] } w) :
    Calls P f args w R := by
  intro cs
  let b : Frame := { (default : Frame) with fn := f, kind := .normal }
  have henter : Frame.enter P f args .normal =
      b.at { tmps := args ++ Array.replicate (fn.ntmps - args.size) undef, defers := [] } [.code c] := by
    simp [Frame.enter, Frame.at, hf, hb, b]
  obtain ⟨e, a', w', hq, harr⟩ := h b [] cs
  rw [← henter] at harr
  have fin : ∀ todo, Steps P (lone (Frame.enter P f args .normal) cs w) (lone { b.at a' todo with mode := .returning } cs w') →
      (∃ rs, a'.defers = rs.map markOfLoop ∧ Marks rs w' ∧ ∃ v, (results fn a'.tmps).run P (takenAll rs w') = .ok v (takenAll rs w') ∧ R (.returned v) (takenAll rs w')) →
      ∃ e w' fr, R e w' ∧ Comes P (lone (Frame.enter P f args .normal) cs w) (lone fr cs w') e ∧ fr.fn = f ∧ fr.leaving P w' e := by
    rintro todo hs ⟨rs, hd, hM, v, hr, hR⟩
    have e1 : ({ b.at a' todo with mode := .returning } : Frame) = { ({ b.at a' todo with mode := .returning } : Frame) with defers := rs.map markOfLoop } := by
      rw [← hd]; rfl
    rw [e1] at hs
    exact ⟨.returned v, _, _, hR, hs.trans (steps_take rs w' rfl hM), rfl, rfl, rfl, rfl, fn, hf, hr⟩
  cases e with
  | normal => exact fin [] (Steps.trans harr (.one step_end)) hq
  | ret => obtain ⟨todo, hs⟩ := harr; exact fin todo hs hq
  | panic chain => exact hq.elim
  | exit id => exact hq.elim
  | goto l => exact hq.elim
  | outgrown => exact hq.elim
end

end Go.Proofs.YtccmjljlfgbicaaGreat
