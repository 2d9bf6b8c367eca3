/- Part 16 of the proof: A11, A12, A13. -/
import Derived.Test.YtacimedkchjfnaaGreatV15
import Derived.Conc.Beside
section
/-! A goroutine's step within S: the law. -/
namespace Go.Proofs.YtacimedkchjfnaaGreat
set_option linter.unusedSimpArgs false
set_option linter.unusedVariables false
open Go.Conc

section
variable {S : Sc} {P : Program}

def Full (w : World) (τ : Nat → Question → Nat) (d : Nat) : Prop := ∀ j q, τ (d + j) q = w.tape (w.drawn + j) q
theorem Full.agree {w w1 : World} {τ : Nat → Question → Nat} {d : Nat} (h : Full w τ d) : Agree w w1 τ d := fun j q _ => h j q

/-- .. of what came in: each cell is one text, outside S. -/
structure CWK (S : Sc) (w : World) : Prop extends CW S w where
  kc : ∀ a, S.k a → ¬ S.b a.block ∧ ∃ s, w.cell? a = some (.string s)
theorem CWK.keep {w w' : World} (h : CWK S w) (k : Keep S w w') : CWK S w' := ⟨k.cw, fun a ha => by
  obtain ⟨h1, s, h2⟩ := h.kc a ha
  refine ⟨h1, s, ?_⟩
  unfold World.cell? at h2 ⊢
  rw [k.rest _ h1]
  exact h2⟩
def EvK (S : Sc) (B : Nat) (e : Event) : Prop := EvIn S B e ∨ ∃ a, S.k a ∧ a.block < B ∧ e = ⟨.cell a, false, false⟩

/-- The step goes on within S, whatever stands below and whatever the tape says beyond. -/
def GoesOn (S : Sc) (P : Program) (w : World) (F : List Frame → World → GStep) : Prop :=
  ∃ fr' up' w' es, FrOk S P fr' ∧ (∀ c ∈ up', FrOk S P c) ∧ Keep S w w' ∧ (∀ e ∈ es, EvK S w'.heap.size e) ∧ w'.tape = w.tape ∧ w.drawn ≤ w'.drawn ∧
    ∀ base τ d, Agree w w' τ d → F base (re w τ d) = .go (G fr' (up' ++ base)) (re w' τ (d + (w'.drawn - w.drawn))) es
def LeadsAway (w : World) (F : List Frame → World → GStep) : Prop := ∀ base τ d, Full w τ d → Bad (F base (re w τ d))

theorem cons_ok {d : Deferred} {l : List Deferred} (h : ClD S d) (hl : ∀ d ∈ l, ClD S d) : ∀ x ∈ d :: l, ClD S x := by
  intro x hx
  rcases List.mem_cons.1 hx with rfl | hx
  · exact h
  · exact hl x hx
theorem mem_seen {f : FuncId} {es : Array Event} {e : Event} (h : e ∈ seen P f es) : e ∈ es := by
  unfold seen at h
  have key : ∀ (l : List Event) (x : Bool × Array Event) (q : Event → Bool × Array Event → Bool × Array Event), (∀ e x, ∀ y ∈ (q e x).2, y ∈ x.2 ∨ y = e) → ∀ y ∈ (l.foldl (fun x e => q e x) x).2, y ∈ x.2 ∨ y ∈ l := by
    intro l
    induction l with
    | nil => intro x q _ y hy; exact .inl hy
    | cons a l ih =>
      intro x q hq y hy
      rcases ih (q a x) q hq y hy with h | h
      · rcases hq a x y h with h | rfl
        · exact .inl h
        · exact .inr (by simp)
      · exact .inr (by simp [h])
  dsimp only at h
  rw [← Array.foldl_toList] at h
  have := key es.toList _ (fun e x => match e.loc with
    | .mark (.extern f) => ((P.funcs[f]?).any (·.norace), x.2)
    | _ => (x.1, if x.1 && !e.sync then x.2 else x.2.push e)) (by
      intro e x y hy
      split at hy
      · exact .inl hy
      · split at hy
        · exact .inl hy
        · rcases Array.mem_push.1 hy with h | h
          · exact .inl h
          · exact .inr h) e h
  rcases this with h | h
  · simp at h
  · simpa using h
theorem after_go (es es' : Array Event) (g : Goroutine) (w : World) : GStep.after es (.go g w es') = .go g w (es ++ es') := rfl
theorem bad_after {es : Array Event} {s : GStep} (h : Bad s) : Bad (GStep.after es s) := by
  cases h with
  | ended o w es' => exact .ended _ _ _
  | blocked g w es' h1 h2 h3 => exact .blocked _ _ _ h1 h2 h3
  | dying g w es' d h1 h2 h3 h4 => exact .dying _ _ _ d h1 h2 h3 h4
theorem bad_dieOf {fr : Frame} {l : List ByteArray} {m : String} {b : Bool} {w : World} : Bad (dieOf fr l m b w) := .dying _ _ _ _ rfl rfl rfl rfl
theorem bad_throw {fr : Frame} {m : String} {w : World} : Bad (endThrow fr m w) := bad_dieOf
theorem bad_fatal {fr : Frame} {cs : List Frame} {d : Option Dying} {m : String} {w : World} : Bad (endFatal P fr cs d m w) := by
  unfold endFatal
  dsimp only
  split
  · exact bad_dieOf
  · exact .ended _ _ _
  · exact .ended _ _ _

/-- A move of control. -/
theorem goesOn_pure {w : World} (hw : CW S w) {fr' : Frame} {up' : List Frame} {F : List Frame → World → GStep} (hf : FrOk S P fr') (hu : ∀ c ∈ up', FrOk S P c)
    (h : ∀ base w, F base w = .go (G fr' (up' ++ base)) w) : GoesOn S P w F :=
  ⟨fr', up', w, #[], hf, hu, Keep.refl hw, by simp, rfl, Nat.le_refl _, fun base τ d _ => by rw [h, Nat.sub_self, Nat.add_zero]⟩

/-- What a step may go on with, what came in being handed on. -/
inductive ClNK (S : Sc) (P : Program) (dk : Bool) : Next → Prop
  | cl (n : Next) (h : ClN S P n) : ClNK S P dk n
  | value (v : Value) (h : KV S v) (hd : dk = true) : ClNK S P dk (.value v)
  | enter (f : FuncId) (args : Array Value) (hf : S.f (.func f)) (hb : ∃ fn, P.funcs[f]? = some fn ∧ fn.body.isNone = false) (h : ∀ (i : Nat) v, args[i]? = some v → KV S v ∧ (S.d f i = false → Cl S v)) : ClNK S P dk (.enter f args)
theorem step_apply (X : PrgC S P) {fr : Frame} {up : List Frame} (hf : FrOk S P fr) (hu : ∀ c ∈ up, FrOk S P c) {w : World} (hw : CW S w) {s : Sem Next} {dk : Bool} (hs : Av S P (ClNK S P dk) s)
    (hK : dk = true → ∀ ops i rest k t, fr.todo = .inRegion ops (i :: rest) :: k → (ops[i]?).bind (·.dst) = some t → S.d fr.fn t = true) :
    GoesOn S P w (fun base w => stepG.apply P true fr (up ++ base) none s w) ∨ LeadsAway w (fun base w => stepG.apply P true fr (up ++ base) none s w) := by
  have hl := run_local X.nofloat s w #[] hw hs
  have ho := run_av X.nofloat s w #[] hw hs
  have hk : (fr.kind == CallKind.early) = false := by rcases hf.kind with h | h <;> rw [h] <;> rfl
  generalize hr : s.runT P w #[] = r at hl ho
  obtain ⟨r, es⟩ := r
  have hrun : ∀ τ d, Agree w (resW r) τ d → s.runT P (re w τ d) #[] = (reR τ (d + ((resW r).drawn - w.drawn)) r, es) := fun τ d ha => hl.same τ d ha
  have hin : ∀ es' : Array Event, (∀ e ∈ es', e ∈ es) → ∀ e ∈ seen P fr.fn es', EvK S (resW r).heap.size e := fun es' h e he => by
    have h1 := h e (mem_seen he)
    cases r with
    | ok a w1 => exact .inl ((ho.2.2 e h1).elim (fun h => by simp at h) id)
    | halt a w1 => exact .inl ((ho.2.2 e h1).elim (fun h => by simp at h) id)
  cases r with
  | ok n w1 =>
    obtain ⟨hn, hkeep, -⟩ := ho
    have fin : ∀ (fr' : Frame) (up' : List Frame), FrOk S P fr' → (∀ c ∈ up', FrOk S P c) →
        (∀ base τ d, Agree w w1 τ d → stepG.apply P true fr (up ++ base) none s (re w τ d) = .go (G fr' (up' ++ base)) (re w1 τ (d + (w1.drawn - w.drawn))) (seen P fr.fn es)) →
        GoesOn S P w (fun base w => stepG.apply P true fr (up ++ base) none s w) := fun fr' up' h1 h2 h3 =>
      ⟨fr', up', w1, seen P fr.fn es, h1, h2, hkeep, hin es fun e he => he, hl.tape, hl.mono, h3⟩
    left
    cases hn with
    | value v hv hd =>
      refine fin (fr.finish v) up (hf.finishK hv fun ops i rest k t h1 h2 h3 => by rw [hK hd ops i rest k t h1 h2] at h3; cases h3) hu fun base τ d ha => ?_
      unfold stepG.apply
      simp only [if_true, hrun τ d ha, reR, hk, Bool.false_eq_true, if_false]
      rfl
    | enter f args hff hb hargs =>
      refine fin (Frame.enter P f args .normal) (fr :: up) (frOk_enterK X (.inl rfl) hff hb hargs) (by simpa using ⟨hf, hu⟩) fun base τ d ha => ?_
      unfold stepG.apply
      simp only [if_true, hrun τ d ha, reR, hk, Bool.false_eq_true, if_false]
      split
      · rename_i h
        have hf' := hf.items _ (by rw [h]; exact List.mem_cons_self)
        exact (hf' : False).elim
      · rfl
    | cl _ hn =>
      cases hn with
        | value v hv =>
          refine fin (fr.finish v) up (hf.finish hv) hu fun base τ d ha => ?_
          unfold stepG.apply
          simp only [if_true, hrun τ d ha, reR, hk, Bool.false_eq_true, if_false]
          rfl
        | skip =>
          refine fin (fr.finish undef) up (hf.finish cl_undef) hu fun base τ d ha => ?_
          unfold stepG.apply
          simp only [if_true, hrun τ d ha, reR, hk, Bool.false_eq_true, if_false]
          rfl
        | enter f args hff hb hargs =>
          refine fin (Frame.enter P f args .normal) (fr :: up) (frOk_enter X (.inl rfl) hff hb hargs) (by simpa using ⟨hf, hu⟩) fun base τ d ha => ?_
          unfold stepG.apply
          simp only [if_true, hrun τ d ha, reR, hk, Bool.false_eq_true, if_false]
          split
          · rename_i h
            have hf' := hf.items _ (by rw [h]; exact List.mem_cons_self)
            exact (hf' : False).elim
          · rfl
        | defer fn cap args hff hc hargs =>
          refine fin ({ fr with defers := ⟨.fn fn cap, args⟩ :: fr.defers }.finish undef) up (FrOk.finish (fr := { fr with defers := ⟨.fn fn cap, args⟩ :: fr.defers }) ⟨hf.items, hf.tmps, cons_ok (.fn _ _ _ hff hc hargs) hf.defers, hf.round, hf.mode, hf.fn, hf.kind⟩ cl_undef) hu fun base τ d ha => ?_
          unfold stepG.apply
          simp only [if_true, hrun τ d ha, reR, hk, Bool.false_eq_true, if_false]
          rfl
        | deferNil args hargs =>
          refine fin ({ fr with defers := ⟨.nil, args⟩ :: fr.defers }.finish undef) up (FrOk.finish (fr := { fr with defers := ⟨.nil, args⟩ :: fr.defers }) ⟨hf.items, hf.tmps, cons_ok (.nil _ hargs) hf.defers, hf.round, hf.mode, hf.fn, hf.kind⟩ cl_undef) hu fun base τ d ha => ?_
          unfold stepG.apply
          simp only [if_true, hrun τ d ha, reR, hk, Bool.false_eq_true, if_false]
          rfl
  | halt x w1 =>
    obtain ⟨hx, hkeep, -⟩ := ho
    cases x with
    | panic v =>
      left
      refine ⟨fr.raise [{ v, recovered := false }], up, w1, seen P fr.fn es, hf.raise (by intro e he; simp at he; subst he; exact hx), hu, hkeep, hin es fun e he => he, hl.tape, hl.mono, fun base τ d ha => ?_⟩
      show stepG.apply P true fr (up ++ base) none s (re w τ d) = _
      unfold stepG.apply
      simp only [if_true, hrun τ d ha, reR, hk, Bool.false_eq_true, if_false]
      rfl
    | blocked =>
      right
      intro base τ d ha
      show Bad (stepG.apply P true fr (up ++ base) none s (re w τ d))
      unfold stepG.apply
      simp only [if_true, hrun τ d ha.agree, reR, hk, Bool.false_eq_true, if_false]
      exact bad_after (.blocked _ _ _ rfl rfl rfl)
    | fatal m =>
      right
      intro base τ d ha
      show Bad (stepG.apply P true fr (up ++ base) none s (re w τ d))
      unfold stepG.apply
      simp only [if_true, hrun τ d ha.agree, reR, hk, Bool.false_eq_true, if_false]
      exact bad_after bad_fatal
    | throw m =>
      right
      intro base τ d ha
      show Bad (stepG.apply P true fr (up ++ base) none s (re w τ d))
      unfold stepG.apply
      simp only [if_true, hrun τ d ha.agree, reR, hk, Bool.false_eq_true, if_false]
      exact bad_after bad_throw
    | stuck m =>
      right
      intro base τ d ha
      show Bad (stepG.apply P true fr (up ++ base) none s (re w τ d))
      unfold stepG.apply
      simp only [if_true, hrun τ d ha.agree, reR, hk, Bool.false_eq_true, if_false]
      exact bad_after (.ended _ _ _)
    | unsupported u =>
      right
      intro base τ d ha
      show Bad (stepG.apply P true fr (up ++ base) none s (re w τ d))
      unfold stepG.apply
      simp only [if_true, hrun τ d ha.agree, reR, hk, Bool.false_eq_true, if_false]
      cases u <;> first | exact hx.elim | exact bad_after (.ended _ _ _)
    | _ => exact hx.elim

theorem av_sizeOf1 {φ : Nat → Prop} {t : TypeId} (h1 : ∀ j, P.info? t = some j → j.size = 1) (h : φ 1) : Av S P φ (sizeOf t) := by
  unfold sizeOf
  exact av_bind (av_typeInfo fun i hi => av_pure (by rw [h1 i hi]; exact h))
theorem frOk_tail {fr : Frame} (hf : FrOk S P fr) {x : Item} {k : List Item} (h : fr.todo = x :: k) : ItemOk S P fr.fn x ∧ ∀ y ∈ k, ItemOk S P fr.fn y := ⟨hf.items x (by rw [h]; simp), fun y hy => hf.items y (by rw [h]; simp [hy])⟩
theorem cons_items {f : Nat} {x : Item} {k : List Item} (h : ItemOk S P f x) (hk : ∀ y ∈ k, ItemOk S P f y) : ∀ y ∈ x :: k, ItemOk S P f y := by
  intro y hy
  rcases List.mem_cons.1 hy with rfl | hy
  · exact h
  · exact hk y hy

/-- A STEP OF A FRAME THAT RUNS. -/
theorem step_exec (X : PrgC S P) {fr : Frame} {up : List Frame} (hf : FrOk S P fr) (hu : ∀ c ∈ up, FrOk S P c) {w : World} (hw : CWK S w) (hm : fr.mode = .run) :
    GoesOn S P w (fun base w => stepG P true (G fr (up ++ base)) w) ∨ LeadsAway w (fun base w => stepG P true (G fr (up ++ base)) w) := by
  have e0 : ∀ base w, stepG P true (G fr (up ++ base)) w = stepG.exec P true true fr (up ++ base) none w := by
    intro base w
    simp only [G, stepG, hm]
  simp only [e0]
  have hround := hf.round
  have away : ∀ {F : List Frame → World → GStep}, (∀ base w, Bad (F base w)) → LeadsAway w F := fun h base τ d _ => h base _
  have ret : FrOk S P { fr with mode := .returning } := ⟨hf.items, hf.tmps, hf.defers, hf.round, fun ch e => by (cases e), hf.fn, hf.kind⟩
  cases ht : fr.todo with
  | nil =>
    left
    exact goesOn_pure hw.toCW ret hu fun base w => by unfold stepG.exec; simp only [ht, hround]; rfl
  | cons x k =>
    obtain ⟨hx, hk⟩ := frOk_tail hf ht
    cases x with
    | inBlock id => left; exact goesOn_pure hw.toCW (hf.todo hk) hu fun base w => by unfold stepG.exec; simp only [ht]; rfl
    | inScope c => left; exact goesOn_pure hw.toCW (hf.todo hk) hu fun base w => by unfold stepG.exec; simp only [ht]; rfl
    | inLoop c => left; exact goesOn_pure hw.toCW (hf.todo (cons_items (x := .code c) hx (cons_items (x := .inLoop c) hx hk))) hu fun base w => by unfold stepG.exec; simp only [ht]; rfl
    | code c =>
      cases c with
      | skip => left; exact goesOn_pure hw.toCW (hf.todo hk) hu fun base w => by unfold stepG.exec; simp only [ht]; rfl
      | label l => left; exact goesOn_pure hw.toCW (hf.todo hk) hu fun base w => by unfold stepG.exec; simp only [ht]; rfl
      | seq a b => left; exact goesOn_pure hw.toCW (hf.todo (cons_items (x := .code a) hx.1 (cons_items (x := .code b) hx.2 hk))) hu fun base w => by unfold stepG.exec; simp only [ht]; rfl
      | block id b => left; exact goesOn_pure hw.toCW (hf.todo (cons_items (x := .code b) hx (cons_items (x := .inBlock id) trivial hk))) hu fun base w => by unfold stepG.exec; simp only [ht]; rfl
      | loop b => left; exact goesOn_pure hw.toCW (hf.todo (cons_items (x := .code b) hx (cons_items (x := .inLoop b) hx hk))) hu fun base w => by unfold stepG.exec; simp only [ht]; rfl
      | scope b => left; exact goesOn_pure hw.toCW (hf.todo (cons_items (x := .code b) hx (cons_items (x := .inScope b) hx hk))) hu fun base w => by unfold stepG.exec; simp only [ht]; rfl
      | ret => left; exact goesOn_pure hw.toCW ret hu fun base w => by unfold stepG.exec; simp only [ht, hround]; rfl
      | refuse why => right; exact away fun base w => by unfold stepG.exec; simp only [ht]; exact .ended _ _ _
      | cond o a b =>
        by_cases hb : ∃ t, fr.eval o = .bool t
        · obtain ⟨t, hb⟩ := hb
          left
          refine goesOn_pure hw.toCW (hf.todo (cons_items (x := .code (if t then a else b)) ?_ hk)) hu fun base w => by unfold stepG.exec; simp only [ht, hb]; rfl
          cases t
          · exact hx.2
          · exact hx.1
        · right
          refine away fun base w => ?_
          unfold stepG.exec
          simp only [ht]
          cases h : fr.eval o <;> first | exact .ended _ _ _ | exact absurd ⟨_, h⟩ hb
      | exit id =>
        cases he : exitTo id k with
        | some k' => left; exact goesOn_pure hw.toCW (hf.todo (items_exitTo hk he)) hu fun base w => by unfold stepG.exec; simp only [ht, he]; rfl
        | none => right; exact away fun base w => by unfold stepG.exec; simp only [ht, he, hround]; exact .ended _ _ _
      | goto l =>
        cases he : gotoIn l k with
        | some k' => left; exact goesOn_pure hw.toCW (hf.todo (items_gotoIn hk he)) hu fun base w => by unfold stepG.exec; simp only [ht, he]; rfl
        | none => right; exact away fun base w => by unfold stepG.exec; simp only [ht, he, hround]; exact .ended _ _ _
      | region id ops draw =>
        left
        cases draw with
        | false => exact goesOn_pure hw.toCW (hf.todo (cons_items (x := .inRegion ops (List.range ops.size)) (fun i _ o ho => hx o (Array.mem_of_getElem? ho)) hk)) hu fun base w => by unfold stepG.exec; simp only [ht]; rfl
        | true =>
          refine ⟨{ fr with todo := .inRegion ops (Region.schedule (P.follows .mixedOrders) ops (w.tape w.drawn (.order fr.fn id))) :: k }, up, { w with drawn := w.drawn + 1 }, #[], hf.todo (cons_items (x := .inRegion ops _) (fun i _ o ho => hx o (Array.mem_of_getElem? ho)) hk), hu, keep_same hw.toCW rfl rfl, by simp, rfl, Nat.le_succ _, fun base τ d ha => ?_⟩
          have h0 : τ d (.order fr.fn id) = w.tape w.drawn (.order fr.fn id) := ha 0 _ (by simp)
          show stepG.exec P true true fr (up ++ base) none (re w τ d) = _
          unfold stepG.exec
          simp only [ht, choose, Sem.run, Question.forced, Question.cut, Bool.not_true, Bool.false_eq_true, if_false, re, h0]
          have : d + (w.drawn + 1 - w.drawn) = d + 1 := by omega
          rw [this]
          rfl
      | rangeFunc f p a b => exact hx.elim
    | inRegion ops todo =>
      cases todo with
      | nil => left; exact goesOn_pure hw.toCW (hf.todo hk) hu fun base w => by unfold stepG.exec; simp only [ht]; rfl
      | cons i rest =>
        cases hwant : ((ops[i]?).map (Region.wanted · (yielded ops fr.tmps))).getD false with
        | false =>
          left
          exact goesOn_pure hw.toCW (hf.finish cl_undef) hu fun base w => by unfold stepG.exec; simp only [ht, hwant, Bool.false_eq_true, if_false]; rfl
        | true =>
          have e1 : ∀ base w, stepG.exec P true true fr (up ++ base) none w = stepG.oper P true fr (up ++ base) none w := by
            intro base w
            unfold stepG.exec
            simp only [ht, hwant, if_true]
          simp only [e1]
          have ho : fr.oper? = ops[i]? := by unfold Frame.oper?; simp only [ht]
          cases hop : ops[i]? with
          | none =>
            right
            exact away fun base w => by unfold stepG.oper; simp only [ho, hop]; exact .ended _ _ _
          | some o =>
            have hok : KOp S P fr.fn o := hx i (by simp) o hop
            have e2 : ∀ base w, stepG.oper P true fr (up ++ base) none w = stepG.apply P true fr (up ++ base) none (execOp fr.eval o) w := by
              intro base w
              unfold stepG.oper
              simp only [ho, hop, hround]
            simp only [e2]
            have plain : OpOk S P o.op → (∀ x ∈ o.op.operands, Cl S (fr.eval x)) → GoesOn S P w (fun base w => stepG.apply P true fr (up ++ base) none (execOp fr.eval o) w) ∨ LeadsAway w (fun base w => stepG.apply P true fr (up ++ base) none (execOp fr.eval o) w) := fun h1 h2 =>
              step_apply X hf hu hw.toCW (dk := false) (av_mono (fun n h => .cl n h) (av_execOp X.toPrgF h1 h2)) (fun h => by cases h)
            have hdst : ∀ {t' : Tmp}, o.dst = some t' → S.d fr.fn t' = true → true = true → ∀ ops' i' rest' k' t, fr.todo = .inRegion ops' (i' :: rest') :: k' → (ops'[i']?).bind (·.dst) = some t → S.d fr.fn t = true := by
              intro t' h1 h2 _ ops' i' rest' k' t h3 h4
              rw [ht] at h3
              injection h3 with h3 _
              injection h3 with h5 h6
              injection h6 with h6 _
              subst h5 h6
              rw [hop, Option.bind_some, h1] at h4
              cases h4
              exact h2
            cases hok with
            | plain h ha => exact plain h fun y hy => (eval_kv hf (h.1 y hy)).2 (ha y hy)
            | move t t' h hd hD =>
              refine step_apply X hf hu hw.toCW (dk := true) ?_ (hdst hd hD)
              unfold execOp
              rw [h]
              exact av_pure (.value _ (eval_kv hf (.tmp t)).1 rfl)
            | addr ty el t t' i' h hi ha hu' hs hd hD =>
              refine step_apply X hf hu hw.toCW (dk := true) ?_ (hdst hd hD)
              unfold execOp
              rw [h]
              have hki := (eval_kv hf hi).2 ha
              have hkt := (eval_kv hf (OperandOk.tmp (S := S) t)).1
              dsimp only
              generalize fr.eval (.tmp t) = v at hkt
              refine av_then (KV S) ?_ fun v hv => av_pure (.value _ hv rfl)
              cases hkt with
              | cl _ hv => exact av_mono (fun v h => .cl v h) (av_indexAt X.toPrg hv)
              | ptr a hka =>
                unfold Instr.indexAt
                refine av_bind (av_asIntOf hki fun k n => av_bind (av_underlying' fun d hd' => ?_))
                rw [hu'] at hd'
                cases hd'
                exact av_bind (av_stuck _)
              | slice a n c hka =>
                unfold Instr.indexAt
                refine av_bind (av_asIntOf hki fun k m => av_bind (av_underlying' fun d hd' => ?_))
                rw [hu'] at hd'
                cases hd'
                refine av_bind (av_pure ?_)
                refine av_bind ?_
                refine av_underlying' fun d hd' => ?_
                rw [hu'] at hd'
                cases hd'
                dsimp only
                split
                · rename_i hr
                  refine av_bind (av_sizeOf1 (fun j hj => hs j hj) ?_)
                  refine av_pure (.ptr _ ?_)
                  rw [Nat.mul_one]
                  exact hka _ (by omega)
                · split
                  · exact av_unsupported _
                  · exact av_boundsPanic X.toPrg
            | load ty t h hg =>
              have hkt := (eval_kv hf (OperandOk.tmp (S := S) t)).1
              by_cases hc : Cl S (fr.eval (.tmp t))
              · refine plain ⟨?_, by rw [h]; trivial⟩ ?_
                · rw [h]
                  intro x hx
                  simp [Op.operands] at hx
                  subst hx
                  exact .tmp t
                · rw [h]
                  intro x hx
                  simp [Op.operands] at hx
                  subst hx
                  exact hc
              · have e3 : execOp fr.eval o = (do pure (.value (← Instr.loadAt ty (fr.eval (.tmp t)))) : Sem Next) := by unfold execOp; rw [h]
                rw [e3]
                generalize fr.eval (.tmp t) = v at hkt hc
                cases hkt with
                | cl _ hv => exact absurd hv hc
                | slice a n c hka => exact step_apply X hf hu hw.toCW (dk := false) (av_bind (av_bind (av_stuck _))) (fun h => by cases h)
                | ptr a hka =>
                  left
                  obtain ⟨hnb, s, hcell⟩ := hw.kc a hka
                  have hkn : (fr.kind == CallKind.early) = false := by rcases hf.kind with h | h <;> rw [h] <;> rfl
                  refine ⟨fr.finish (.string s), up, w, seen P fr.fn #[⟨.cell a, false, false⟩], hf.finish (.string _), hu, Keep.refl hw.toCW, fun e he => ?_, rfl, Nat.le_refl _, fun base τ d _ => ?_⟩
                  · have := mem_seen he
                    rw [Array.mem_singleton] at this
                    subst this
                    exact .inr ⟨a, hka, lt_of_cell hcell, rfl⟩
                  · have hc' : (re w τ d).cell? a = some (.string s) := hcell
                    have hr : ((do pure (.value (← Instr.loadAt ty (.pointer (some a)))) : Sem Next)).runT P (re w τ d) #[] = (.ok (.value (.string s)) (re w τ d), #[⟨.cell a, false, false⟩]) := by
                      show ((do let a ← (pure a : Sem Addr); _ : Sem Value) >>= _ : Sem Next).runT P (re w τ d) #[] = _
                      unfold loadVar isAgg underlying program
                      simp only [bind, Sem.bind, pure, Sem.runT, hg, load, hc', Bool.false_eq_true, if_false]
                      rfl
                    unfold stepG.apply
                    simp only [if_true, hr, hkn, Bool.false_eq_true, if_false]
                    rw [Nat.sub_self, Nat.add_zero]
                    rfl
            | len ty el t h hu' =>
              refine step_apply X hf hu hw.toCW (dk := false) ?_ (fun h => by cases h)
              unfold execOp
              rw [h]
              dsimp only
              unfold resolve
              refine av_bind (av_pure ?_)
              show Av S P _ (do pure (.value (← Builtin.len_ _ _ _)) : Sem Next)
              refine av_then (Cl S) ?_ fun v hv => av_pure (.cl _ (.value _ hv))
              unfold Builtin.len_
              simp only [List.map_toArray, List.map_cons, List.map_nil, List.getElem?_toArray, List.getElem?_cons_zero]
              refine av_bind (av_underlying' fun d hd' => ?_)
              rw [hu'] at hd'
              cases hd'
              split
              all_goals first
                | exact av_pure (.int _ _)
                | exact av_stuck _
                | contradiction
            | call g args ats h hg hb ha =>
              refine step_apply X hf hu hw.toCW (dk := false) ?_ (fun h => by cases h)
              obtain ⟨fn, h1, h2, h3⟩ := hb
              unfold execOp
              rw [h]
              dsimp only
              unfold resolve
              dsimp only
              show Av S P _ ((Deferred.ofValue (.func (.func g) #[] #[]) _ : Sem Deferred) >>= _)
              unfold Deferred.ofValue
              refine av_bind (av_pure ?_)
              show Av S P _ (callFunc g _)
              unfold callFunc
              refine av_bind (av_program ?_)
              rw [h1]
              simp only [h2, h3, Bool.false_eq_true, if_false]
              refine av_pure (.enter _ _ hg ⟨fn, h1, h3⟩ fun i v hv => ?_)
              simp only [Array.append_empty, Array.empty_append, Array.getElem?_map] at hv
              obtain ⟨x, hx, rfl⟩ := Option.map_eq_some_iff.1 hv
              obtain ⟨h4, h5⟩ := ha i x hx
              exact ⟨(eval_kv hf h4).1, fun h => (eval_kv hf h4).2 (h5 h)⟩
    | _ => exact (hx : False).elim

theorem av_results (X : PrgC S P) {fn : Func} {fr : Frame} (hf : FrOk S P fr) (hfn : P.funcs[fr.fn]? = some fn) : Av S P (Cl S) (results fn fr.tmps) := by
  unfold results
  refine av_bind (av_mapMA (ψ := Cl S) (fun r hr => ?_) fun vs hvs => ?_)
  · split
    · exact av_pure ((eval_kv hf (.tmp _)).2 (X.res _ _ _ hfn (.inl hr)))
    · exact av_bind (av_asAddr X.toPrg ((eval_kv hf (.tmp _)).2 (X.res _ _ _ hfn (.inr ⟨_, hr⟩))) fun a ha => av_loadVar ha fun _ h => h)
  · refine av_pure ?_
    by_cases h : vs.size = 1
    · rw [dif_pos h]; exact hvs _ (by simp)
    · rw [dif_neg h]; exact .tuple _ hvs

/-- A STEP OF A FRAME THAT DOES NOT RUN, and does not leave the lowest frame of those that are looked at. -/
theorem step_unwind (X : PrgC S P) {fr : Frame} {up : List Frame} (hf : FrOk S P fr) (hu : ∀ c ∈ up, FrOk S P c) {w : World} (hw : CWK S w) (hm : fr.mode ≠ .run) (hout : fr.defers = [] → up ≠ []) :
    GoesOn S P w (fun base w => stepG P true (G fr (up ++ base)) w) ∨ LeadsAway w (fun base w => stepG P true (G fr (up ++ base)) w) := by
  have e0 : ∀ base w, stepG P true (G fr (up ++ base)) w = unwind P true fr (up ++ base) none w := by
    intro base w
    simp only [G, stepG]
  simp only [e0]
  have hk : (fr.kind == CallKind.early) = false := by rcases hf.kind with h | h <;> rw [h] <;> rfl
  have away : ∀ {F : List Frame → World → GStep}, (∀ base w, Bad (F base w)) → LeadsAway w F := fun h base τ d _ => h base _
  cases hd : fr.defers with
  | cons x ds =>
    have hx := hf.defers x (by rw [hd]; simp)
    have hds : ∀ y ∈ ds, ClD S y := fun y hy => hf.defers y (by rw [hd]; simp [hy])
    have hf' : FrOk S P { fr with defers := ds } := ⟨hf.items, hf.tmps, hds, hf.round, hf.mode, hf.fn, hf.kind⟩
    have e1 : ∀ base w, unwind P true fr (up ++ base) none w = callDeferred P { fr with defers := ds } (up ++ base) none x w := by
      intro base w
      unfold unwind
      simp only [hd]
      cases hx <;> rfl
    simp only [e1]
    have hs := av_invoke X.toPrgF hx
    have hl := run_local X.nofloat _ w #[] hw.toCW hs
    have ho := run_av X.nofloat _ w #[] hw.toCW hs
    generalize hr : (invoke x.target x.args).runT P w #[] = r at hl ho
    obtain ⟨r, es⟩ := r
    have hrun : ∀ τ d, Agree w (resW r) τ d → (invoke x.target x.args).runT P (re w τ d) #[] = (reR τ (d + ((resW r).drawn - w.drawn)) r, es) := fun τ d ha => hl.same τ d ha
    have hin : ∀ e ∈ seen P fr.fn es, EvK S (resW r).heap.size e := fun e he => by
      have h1 := mem_seen he
      cases r with
      | ok a w1 => exact .inl ((ho.2.2 e h1).elim (fun h => by simp at h) id)
      | halt a w1 => exact .inl ((ho.2.2 e h1).elim (fun h => by simp at h) id)
    by_cases hnil : (∃ args, x = ⟨.nil, args⟩) ∧ ∃ ch, fr.mode = .panicking ch
    · obtain ⟨⟨args, rfl⟩, ch, hch⟩ := hnil
      right
      refine away fun base w => ?_
      unfold callDeferred
      simp only [hch]
      exact .ended _ _ _
    have tac : True := trivial
    have fin : ∀ (n : Next) (w1 : World) (fr' : Frame) (up' : List Frame), r = .ok n w1 → FrOk S P fr' → (∀ c ∈ up', FrOk S P c) →
        (∀ base τ d, Agree w w1 τ d → callDeferred P { fr with defers := ds } (up ++ base) none x (re w τ d) = .go (G fr' (up' ++ base)) (re w1 τ (d + (w1.drawn - w.drawn))) (seen P fr.fn es)) →
        GoesOn S P w (fun base w => callDeferred P { fr with defers := ds } (up ++ base) none x w) := by
      intro n w1 fr' up' hr1 h1 h2 h3
      subst hr1
      exact ⟨fr', up', w1, seen P fr.fn es, h1, h2, ho.2.1, hin, hl.tape, hl.mono, h3⟩
    have hmode : (∃ ch, fr.mode = .panicking ch) ∨ fr.mode = .returning := by
      cases h : fr.mode with
      | run => exact absurd h hm
      | returning => exact .inr rfl
      | panicking ch => exact .inl ⟨ch, rfl⟩
    cases r with
    | ok n w1 =>
      left
      cases ho.1 with
      | value v hv =>
        refine fin _ w1 { fr with defers := ds } up rfl hf' hu fun base τ d ha => ?_
        unfold callDeferred
        cases hx with
        | fn fn cap args h1 h2 h3 => simp only [Bool.false_and, Bool.false_eq_true, if_false, hrun τ d ha, reR]; rfl
        | nil args h => 
          rcases hmode with ⟨ch, hch⟩ | hch
          · exact absurd ⟨⟨args, rfl⟩, ch, hch⟩ hnil
          · simp only [hch, Bool.and_false, Bool.false_eq_true, if_false, hrun τ d ha, reR]; rfl
      | skip =>
        refine fin _ w1 { fr with defers := ds } up rfl hf' hu fun base τ d ha => ?_
        unfold callDeferred
        cases hx with
        | fn fn cap args h1 h2 h3 => simp only [Bool.false_and, Bool.false_eq_true, if_false, hrun τ d ha, reR]; rfl
        | nil args h => 
          rcases hmode with ⟨ch, hch⟩ | hch
          · exact absurd ⟨⟨args, rfl⟩, ch, hch⟩ hnil
          · simp only [hch, Bool.and_false, Bool.false_eq_true, if_false, hrun τ d ha, reR]; rfl
      | defer fn cap args hff hc hargs =>
        refine fin _ w1 { fr with defers := ds } up rfl hf' hu fun base τ d ha => ?_
        unfold callDeferred
        cases hx with
        | fn fn cap args h1 h2 h3 => simp only [Bool.false_and, Bool.false_eq_true, if_false, hrun τ d ha, reR]; rfl
        | nil args h => 
          rcases hmode with ⟨ch, hch⟩ | hch
          · exact absurd ⟨⟨args, rfl⟩, ch, hch⟩ hnil
          · simp only [hch, Bool.and_false, Bool.false_eq_true, if_false, hrun τ d ha, reR]; rfl
      | deferNil args hargs =>
        refine fin _ w1 { fr with defers := ds } up rfl hf' hu fun base τ d ha => ?_
        unfold callDeferred
        cases hx with
        | fn fn cap args h1 h2 h3 => simp only [Bool.false_and, Bool.false_eq_true, if_false, hrun τ d ha, reR]; rfl
        | nil args h => 
          rcases hmode with ⟨ch, hch⟩ | hch
          · exact absurd ⟨⟨args, rfl⟩, ch, hch⟩ hnil
          · simp only [hch, Bool.and_false, Bool.false_eq_true, if_false, hrun τ d ha, reR]; rfl
      | enter f args hff hb hargs =>
        refine fin _ w1 (Frame.enter P f args .deferred) ({ fr with defers := ds } :: up) rfl (frOk_enter X (.inr rfl) hff hb hargs) (by intro c hc; rcases List.mem_cons.1 hc with rfl | hc; exact hf'; exact hu c hc) fun base τ d ha => ?_
        unfold callDeferred
        cases hx with
        | fn fn cap args h1 h2 h3 => simp only [Bool.false_and, Bool.false_eq_true, if_false, hrun τ d ha, reR]; rfl
        | nil args h => 
          rcases hmode with ⟨ch, hch⟩ | hch
          · exact absurd ⟨⟨args, rfl⟩, ch, hch⟩ hnil
          · simp only [hch, Bool.and_false, Bool.false_eq_true, if_false, hrun τ d ha, reR]; rfl
    | halt y w1 =>
      obtain ⟨hy, hkeep, -⟩ := ho
      have bad : (∀ base τ d, Full w τ d → Bad (callDeferred P { fr with defers := ds } (up ++ base) none x (re w τ d))) ∨ (∃ v, y = .panic v) := by
        cases y with
        | panic v => exact .inr ⟨v, rfl⟩
        | _ =>
          left
          intro base τ d ha
          unfold callDeferred
          cases hx with
          | fn fn cap args h1 h2 h3 =>
            simp only [Bool.false_and, Bool.false_eq_true, if_false, hrun τ d ha.agree, reR]
            first
              | exact hy.elim
              | exact bad_after (.ended _ _ _)
              | exact bad_after bad_fatal
              | exact bad_after bad_throw
              | exact bad_after (.blocked _ _ _ rfl rfl rfl)
          | nil args h =>
            rcases hmode with ⟨ch, hch⟩ | hch
            · exact absurd ⟨⟨args, rfl⟩, ch, hch⟩ hnil
            · simp only [hch, Bool.and_false, Bool.false_eq_true, if_false, hrun τ d ha.agree, reR]
              first
                | exact hy.elim
                | exact bad_after (.ended _ _ _)
                | exact bad_after bad_fatal
                | exact bad_after bad_throw
                | exact bad_after (.blocked _ _ _ rfl rfl rfl)
      rcases bad with h | ⟨v, rfl⟩
      · exact .inr h
      · left
        refine ⟨({ fr with defers := ds } : Frame).raise [{ v, recovered := false }], up, w1, seen P fr.fn es, hf'.raise (by intro e he; simp at he; subst he; exact hy), hu, hkeep, hin, hl.tape, hl.mono, fun base τ d ha => ?_⟩
        show callDeferred P { fr with defers := ds } (up ++ base) none x (re w τ d) = _
        unfold callDeferred
        cases hx with
        | fn fn cap args h1 h2 h3 => simp only [Bool.false_and, Bool.false_eq_true, if_false, hrun τ d ha, reR]; rfl
        | nil args h => 
          rcases hmode with ⟨ch, hch⟩ | hch
          · exact absurd ⟨⟨args, rfl⟩, ch, hch⟩ hnil
          · simp only [hch, Bool.and_false, Bool.false_eq_true, if_false, hrun τ d ha, reR]; rfl
  | nil =>
    obtain ⟨c, cs, rfl⟩ : ∃ c cs, up = c :: cs := by
      cases up with
      | nil => exact absurd rfl (hout hd)
      | cons c cs => exact ⟨c, cs, rfl⟩
    have hc := hu c (by simp)
    have hcs : ∀ y ∈ cs, FrOk S P y := fun y hy => hu y (by simp [hy])
    cases hmode : fr.mode with
    | run => exact absurd hmode hm
    | panicking chain =>
      left
      refine goesOn_pure hw.toCW (hc.raise (hf.mode chain hmode)) hcs fun base w => ?_
      obtain ⟨fn, hfn⟩ := hf.fn
      unfold unwind
      simp only [hd, hmode, Frame.catches, hfn, Bool.false_eq_true, if_false, List.cons_append]
      rfl
    | returning =>
      obtain ⟨fn, hfn⟩ := hf.fn
      have hs := av_results X hf hfn
      have hl := run_local X.nofloat _ w #[] hw.toCW hs
      have ho := run_av X.nofloat _ w #[] hw.toCW hs
      generalize hr : (results fn fr.tmps).runT P w #[] = r at hl ho
      obtain ⟨r, es⟩ := r
      have hrun : ∀ τ d, Agree w (resW r) τ d → (results fn fr.tmps).runT P (re w τ d) #[] = (reR τ (d + ((resW r).drawn - w.drawn)) r, es) := fun τ d ha => hl.same τ d ha
      have hin : ∀ e ∈ seen P fr.fn es, EvK S (resW r).heap.size e := fun e he => by
        have h1 := mem_seen he
        cases r with
        | ok a w1 => exact .inl ((ho.2.2 e h1).elim (fun h => by simp at h) id)
        | halt a w1 => exact .inl ((ho.2.2 e h1).elim (fun h => by simp at h) id)
      cases r with
      | ok v w1 =>
        obtain ⟨hv, hkeep, -⟩ := ho
        left
        have hc' : FrOk S P (match c.mode with
            | .panicking ({ recovered := true, .. } :: older) =>
              match older.dropWhile (!·.goexit) with
              | [] => { c with mode := .returning }
              | rest => { c with mode := .panicking rest }
            | _ => c) := by
          split
          · rename_i older hcm
            split
            · exact ⟨hc.items, hc.tmps, hc.defers, hc.round, fun ch e => by (cases e), hc.fn, hc.kind⟩
            · refine ⟨hc.items, hc.tmps, hc.defers, hc.round, fun ch e => ?_, hc.fn, hc.kind⟩
              cases e
              intro y hy
              exact hc.mode _ hcm y (List.mem_cons_of_mem _ ((List.dropWhile_sublist _).subset hy))
          · exact hc
        rcases hf.kind with hkd | hkd
        · refine ⟨c.finish v, cs, w1, seen P fr.fn es, hc.finish hv, hcs, hkeep, hin, hl.tape, hl.mono, fun base τ d ha => ?_⟩
          show unwind P true fr (c :: cs ++ base) none (re w τ d) = _
          unfold unwind
          simp only [hd, hmode, hfn, hrun τ d ha, reR, doReturn, hkd, List.cons_append]
          rfl
        · refine ⟨_, cs, w1, seen P fr.fn es, hc', hcs, hkeep, hin, hl.tape, hl.mono, fun base τ d ha => ?_⟩
          show unwind P true fr (c :: cs ++ base) none (re w τ d) = _
          unfold unwind
          simp only [hd, hmode, hfn, hrun τ d ha, reR, doReturn, hkd, List.cons_append]
          rfl
      | halt x w1 =>
        right
        intro base τ d ha
        show Bad (unwind P true fr (c :: cs ++ base) none (re w τ d))
        unfold unwind
        simp only [hd, hmode, hfn, hrun τ d ha.agree, reR]
        cases x <;> exact bad_after (.ended _ _ _)
end
end Go.Proofs.YtacimedkchjfnaaGreat
end

section
/-! From a contract of the lone walk to a walk beside goroutines that only leave. -/
namespace Go.Proofs.YtacimedkchjfnaaGreat
set_option linter.unusedSimpArgs false
set_option linter.unusedVariables false
open Go.Conc

/-! ### one tape out of many -/
theorem mono_of {K : Nat → Nat} (hK : ∀ i, K i ≤ K (i + 1)) : ∀ i j, i ≤ j → K i ≤ K j := fun i j h => by
  induction h with
  | refl => exact Nat.le_refl _
  | step _ ih => exact Nat.le_trans ih (hK _)
theorem glue (τ : Nat → Question → Nat) (K dd : Nat → Nat) (hK : ∀ i, K i ≤ K (i + 1)) : ∃ τ' : Nat → Question → Nat, ∀ i j q, K i + j < K (i + 1) → τ' (K i + j) q = τ (dd i + j) q := by
  classical
  have mono := mono_of hK
  refine ⟨fun k q => if h : ∃ i, K i ≤ k ∧ k < K (i + 1) then τ (dd (Classical.choose h) + (k - K (Classical.choose h))) q else 0, fun i j q hj => ?_⟩
  have h : ∃ i', K i' ≤ K i + j ∧ K i + j < K (i' + 1) := ⟨i, Nat.le_add_right _ _, hj⟩
  have e : Classical.choose h = i := by
    obtain ⟨h1, h2⟩ := Classical.choose_spec h
    rcases Nat.lt_trichotomy (Classical.choose h) i with hlt | heq | hgt
    · have := mono (Classical.choose h + 1) i hlt
      omega
    · exact heq
    · have := mono (i + 1) (Classical.choose h) hgt
      omega
  show (if h : ∃ i', K i' ≤ K i + j ∧ K i + j < K (i' + 1) then τ (dd (Classical.choose h) + (K i + j - K (Classical.choose h))) q else 0) = _
  rw [dif_pos h, e]
  congr 1
  omega
theorem glue_fin (τ : Nat → Question → Nat) (K dd : Nat → Nat) (hK : ∀ i, K i ≤ K (i + 1)) (M : Nat) :
    ∃ τ' : Nat → Question → Nat, (∀ i j q, i < M → K i + j < K (i + 1) → τ' (K i + j) q = τ (dd i + j) q) ∧ ∀ j q, τ' (K M + j) q = τ (dd M + j) q := by
  obtain ⟨τ1, h1⟩ := glue τ K dd hK
  refine ⟨fun k q => if k < K M then τ1 k q else τ (dd M + (k - K M)) q, fun i j q hi hj => ?_, fun j q => ?_⟩
  · have := mono_of hK (i + 1) M hi
    show (if K i + j < K M then _ else _) = _
    rw [if_pos (by omega)]
    exact h1 i j q hj
  · show (if K M + j < K M then _ else _) = _
    rw [if_neg (by omega)]
    congr 1
    omega

/-! ### a goroutine that has led away never comes back -/
def Lost (g : Goroutine) : Prop := g.status = .blocked ∨ (g.status = .running ∧ ∃ d, g.dying = some d ∧ d.calling = false ∧ d.fatal.isSome = true)
theorem step_lost {P : Program} {g : Goroutine} {w : World} (h : Lost g) : (∃ o w', step P (solo g w) = .ended o w') ∨ ∃ g' w', step P (solo g w) = .next (solo g' w') ∧ Lost g' := by
  rcases h with h | ⟨h, d, hd, hc, hf⟩
  · left
    have hmove : ∃ o w', move P (solo g w) = .machine (.ended o w') := by
      simp [move, ask, askOn, solo, runnable_eq, due, ahead, Goroutine.canRun, List.range_succ, choose, pure, Sem.run, Question.forced, h]
      split
      · exact ⟨_, _, rfl⟩
      · exact ⟨_, _, rfl⟩
    obtain ⟨o, w', hm⟩ := hmove
    exact ⟨o, w', by simp only [step, stepT, hm]⟩
  · have h1 := stepT_solo (P := P) (w := w) h
    obtain ⟨f, hff⟩ := Option.isSome_iff_exists.1 hf
    clear hf
    have hg : stepG P true g w = writeOn P g.frame d f w := by
      obtain ⟨fr, cs, st, dy, off⟩ := g
      simp only at hd hc
      subst hd
      obtain ⟨a1, a2, a3, a4, a5, a6, a7⟩ := d
      simp only at hc hff
      subst hc hff
      rfl
    have key : (∃ o w' es, stepG P true g w = .ended o w' es) ∨ ∃ g' w' es, stepG P true g w = .go g' w' es ∧ Lost g' ∧ g'.status ≠ .finished := by
      rw [hg]
      unfold writeOn
      extract_lets on
      split
      · exact .inl ⟨_, _, _, rfl⟩
      · extract_lets
        rename_i write
        generalize write.runT P w #[] = r
        split
        · exact .inr ⟨_, _, _, rfl, .inr ⟨rfl, _, rfl, hc, rfl⟩, by simp [on]⟩
        · exact .inr ⟨_, _, _, rfl, .inl rfl, by simp [on]⟩
        · exact .inl ⟨_, _, _, rfl⟩
        · exact .inl ⟨_, _, _, rfl⟩
    rcases key with ⟨o, w', es, hk⟩ | ⟨g', w', es, hk, hl, hnf⟩
    · left
      refine ⟨o, w', ?_⟩
      simp only [step, h1]
      simp [runT, solo, Array.swapAt!, hk]
    · right
      refine ⟨g', w', ?_, hl⟩
      simp only [step, h1]
      simp [runT, solo, Array.swapAt!, hk]
theorem lost_never {P : Program} : ∀ (n : Nat) {g : Goroutine} {w : World}, Lost g → ∀ fr cs w', runN P n (solo g w) ≠ .next (lone fr cs w') := by
  intro n
  induction n with
  | zero =>
    intro g w h fr cs w' e
    simp only [runN, Stepped.next.injEq] at e
    have hg : g = G fr cs := by
      have := congrArg Machine.gs e
      simpa [solo, lone, G] using this
    subst hg
    rcases h with h | ⟨_, d, h, _⟩ <;> cases h
  | succ n ih =>
    intro g w h fr cs w' e
    simp only [runN] at e
    rcases step_lost (P := P) (w := w) h with ⟨o, w1, h1⟩ | ⟨g', w1, h1, h2⟩
    · rw [h1] at e; cases e
    · rw [h1] at e; exact ih h2 _ _ _ e
end Go.Proofs.YtacimedkchjfnaaGreat
end

section
/-! From a contract of the lone walk to a walk beside goroutines that only leave: the law. -/
namespace Go.Proofs.YtacimedkchjfnaaGreat
set_option linter.unusedSimpArgs false
set_option linter.unusedVariables false
open Go.Conc

/-- Goroutine 0 is on its way to a stop, the count of draws alone being turned ahead of each step: without a bound on the number of steps. -/
inductive BW (P : Program) (D : World → World → Array Event → Prop) (Stop : Goroutine → World → Prop) : Goroutine → World → Prop
  | stop {g : Goroutine} {w : World} (h : ∀ d, Stop g (w.at d)) : BW P D Stop g w
  | step {g : Goroutine} {w : World} (hs : g.status = .running) (g' : Nat → Goroutine) (w' : Nat → World) (es : Nat → Array Event)
      (h : ∀ d, stepG P true g (w.at d) = .go (g' d) (w' d) (es d)) (hD : ∀ d, D (w.at d) (w' d) (es d)) (ih : ∀ d, BW P D Stop (g' d) (w' d)) : BW P D Stop g w

theorem bw_not {P : Program} {D : World → World → Array Event → Prop} {Stop : Goroutine → World → Prop} {g : Goroutine} {w : World} (hs : g.status = .running) (h : ¬ BW P D Stop g w) :
    ∃ d, ∀ g' w' es, stepG P true g (w.at d) = .go g' w' es → D (w.at d) w' es → ¬ BW P D Stop g' w' := by
  refine Classical.byContradiction fun hn => h ?_
  have h1 : ∀ d, ∃ x : Goroutine × World × Array Event, stepG P true g (w.at d) = .go x.1 x.2.1 x.2.2 ∧ D (w.at d) x.2.1 x.2.2 ∧ BW P D Stop x.1 x.2.1 := by
    intro d
    refine Classical.byContradiction fun hd => hn ⟨d, fun g' w' es h1 h2 h3 => hd ⟨(g', w', es), h1, h2, h3⟩⟩
  obtain ⟨F, hF⟩ := Classical.axiomOfChoice h1
  exact .step hs (fun d => (F d).1) (fun d => (F d).2.1) (fun d => (F d).2.2) (fun d => (hF d).1) (fun d => (hF d).2.1) fun d => (hF d).2.2

/-- The frame below, of the lone run that is compared: whoever comes back to it ends. -/
def c0 : Frame := { fn := 0, tmps := #[], todo := [.code (.refuse "")], defers := [{ target := .nil, args := #[] }], mode := .run, kind := .normal }

structure PS where
  fr : Frame
  up : List Frame
  w : World

section
variable {S : Sc} {P : Program}

structure Inv (S : Sc) (P : Program) (τ : Nat → Question → Nat) (x : PS) : Prop where
  fr : FrOk S P x.fr
  up : ∀ c ∈ x.up, FrOk S P c
  cw : CWK S x.w
  tape : x.w.tape = τ

def Link (P : Program) (τ0 : Nat → Question → Nat) (x : PS) (d : Nat) (y : PS) : Prop :=
  d ≤ y.w.drawn ∧ ∃ es, ∀ base τ d', (∀ j q, d + j < y.w.drawn → τ (d' + j) q = τ0 (d + j) q) → stepG P true (G x.fr (x.up ++ base)) (re x.w τ d') = .go (G y.fr (y.up ++ base)) (re y.w τ (d' + (y.w.drawn - d))) es
def Terminal (x : PS) : Prop := x.up = [] ∧ x.fr.defers = [] ∧ x.fr.mode ≠ .run
def Dead (P : Program) (τ0 : Nat → Question → Nat) (x : PS) (d : Nat) : Prop :=
  (∀ base τ d', (∀ j q, τ (d' + j) q = τ0 (d + j) q) → Bad (stepG P true (G x.fr (x.up ++ base)) (re x.w τ d'))) ∨ Terminal x

def DIn (S : Sc) : World → World → Array Event → Prop := fun w w' es => (∀ e ∈ es, EvK S w'.heap.size e) ∧ Keep S w w' ∧ w'.tape = w.tape

theorem next_of (X : PrgC S P) {base : List Frame} {Stop : Goroutine → World → Prop} {τ0 : Nat → Question → Nat} {x : PS} (hx : Inv S P τ0 x) (hn : ¬ BW P (DIn S) Stop (G x.fr (x.up ++ base)) x.w) :
    ∃ d, (∃ y, Inv S P τ0 y ∧ ¬ BW P (DIn S) Stop (G y.fr (y.up ++ base)) y.w ∧ Link P τ0 x d y) ∨ Dead P τ0 x d := by
  obtain ⟨d, hd⟩ := bw_not rfl hn
  refine ⟨d, ?_⟩
  by_cases ht : Terminal x
  · exact .inr (.inr ht)
  have hw : CWK S (x.w.at d) := ⟨⟨hx.cw.objs, hx.cw.fresh⟩, hx.cw.kc⟩
  have hstep : GoesOn S P (x.w.at d) (fun base w => stepG P true (G x.fr (x.up ++ base)) w) ∨ LeadsAway (x.w.at d) (fun base w => stepG P true (G x.fr (x.up ++ base)) w) := by
    by_cases hm : x.fr.mode = .run
    · exact step_exec X hx.fr hx.up hw hm
    · exact step_unwind X hx.fr hx.up hw hm fun h1 h2 => ht ⟨h2, h1, hm⟩
  rcases hstep with ⟨fr', up', w', es, h1, h2, h3, h4, h5, h6, h7⟩ | h
  · left
    have e0 : re (x.w.at d) (x.w.at d).tape d = x.w.at d := rfl
    have hgo := h7 base (x.w.at d).tape d (fun j q _ => rfl)
    rw [e0] at hgo
    have e1 : re w' (x.w.at d).tape (d + (w'.drawn - (x.w.at d).drawn)) = w' := by
      have : d + (w'.drawn - (x.w.at d).drawn) = w'.drawn := by
        have : (x.w.at d).drawn = d := rfl
        omega
      rw [this, ← h5]
      rfl
    rw [e1] at hgo
    refine ⟨⟨fr', up', w'⟩, ⟨h1, h2, hw.keep h3, h5.trans hx.tape⟩, hd _ _ _ hgo ⟨h4, h3, h5⟩, h6, es, fun base τ d' ha => ?_⟩
    exact h7 base τ d' fun j q hj => by
      have := ha j q hj
      rw [← hx.tape] at this
      exact this
  · right; left
    intro base τ d' ha
    exact h base τ d' fun j q => by
      have := ha j q
      rw [← hx.tape] at this
      exact this

theorem least {p : Nat → Prop} : ∀ n, p n → ∃ m, p m ∧ ∀ k, k < m → ¬ p k := by
  intro n
  induction n using Nat.strongRecOn with
  | _ n ih =>
    intro h
    by_cases hk : ∃ k, k < n ∧ p k
    · obtain ⟨k, hk, hp⟩ := hk
      exact ih k hk hp
    · exact ⟨n, h, fun k hk' hp => hk ⟨k, hk', hp⟩⟩

theorem step_lone_of {fr fr' : Frame} {cs cs' : List Frame} {w w' : World} {es : Array Event} (h : stepG P true (G fr cs) w = .go (G fr' cs') w' es) : step P (lone fr cs w) = .next (lone fr' cs' w') := by
  refine step_lone_go ?_
  have : stepG P true { frame := fr, callers := cs, status := .running, dying := none } w = .go (G fr' cs') w' es := h
  rw [this]
  rfl

theorem runs_along {sq : Nat → PS} {dd K : Nat → Nat} {τ0 τ' : Nat → Question → Nat} {L : Nat} (hK0 : K 0 = 0) (hK : ∀ n, n < L → K (n + 1) = K n + ((sq (n + 1)).w.drawn - dd n))
    (hlink : ∀ n, n < L → Link P τ0 (sq n) (dd n) (sq (n + 1))) (hag : ∀ i j q, i < L → K i + j < K (i + 1) → τ' (K i + j) q = τ0 (dd i + j) q) :
    ∀ n, n ≤ L → runN P n (lone (sq 0).fr ((sq 0).up ++ [c0]) (re (sq 0).w τ' 0)) = .next (lone (sq n).fr ((sq n).up ++ [c0]) (re (sq n).w τ' (K n))) := by
  intro n
  induction n with
  | zero => intro _; rw [hK0]; rfl
  | succ n ih =>
    intro hn
    rw [runN_add P n 1, ih (by omega)]
    obtain ⟨h1, es, h2⟩ := hlink n (by omega)
    have hk := hK n (by omega)
    have h3 := h2 [c0] τ' (K n) fun j q hj => hag n j q (by omega) (by omega)
    rw [← hk] at h3
    simp only [runN, step_lone_of h3]

theorem c0_ends {w : World} : ∃ o w', step P (lone c0 [] w) = .ended o w' := by
  refine ⟨_, _, step_lone_ended (by simp [stepG, stepG.exec, c0]; exact ⟨rfl, rfl⟩)⟩
theorem c0_raised_ends {w : World} {ch : List PanicEntry} : ∃ o w', step P (lone (c0.raise ch) [] w) = .ended o w' := by
  refine ⟨_, _, step_lone_ended (by simp [stepG, unwind, callDeferred, c0, Frame.raise]; exact ⟨rfl, rfl⟩)⟩

theorem bad_never {fr : Frame} {cs : List Frame} {w : World} (h : Bad (stepG P true (G fr cs) w)) (n : Nat) (fr' : Frame) (cs' : List Frame) (w' : World) : runN P (n + 1) (lone fr cs w) ≠ .next (lone fr' cs' w') := by
  intro e
  have h1 := stepT_solo (P := P) (a := G fr cs) (w := w) rfl
  have hrun : ∀ s, stepG P true (G fr cs) w = s → step P (lone fr cs w) = (match s with
      | .ended o w _ => .ended o w
      | .go g w _ => .next (solo g w)
      | _ => step P (lone fr cs w)) := by
    intro s hs
    cases s <;> first | rfl | skip
    · show step P (solo (G fr cs) w) = _
      simp only [step, h1]
      simp [runT, solo, Array.swapAt!, hs]
    · show step P (solo (G fr cs) w) = _
      simp only [step, h1]
      simp [runT, solo, Array.swapAt!, hs]
  have h2 := hrun _ rfl
  simp only [runN] at e
  generalize stepG P true (G fr cs) w = s at h h2
  cases h with
  | ended o w1 es =>
    simp only at h2
    rw [h2] at e
    cases e
  | blocked g w1 es h3 h4 h5 =>
    simp only at h2
    rw [h2] at e
    exact lost_never n (.inl h3) _ _ _ e
  | dying g w1 es d h3 h4 h5 h6 =>
    simp only at h2
    rw [h2] at e
    exact lost_never n (.inr ⟨h6, d, h3, h4, h5⟩) _ _ _ e

theorem lone_callers {fr fr' : Frame} {cs cs' : List Frame} {w w' : World} (h : lone fr cs w = lone fr' cs' w') : fr = fr' ∧ cs = cs' ∧ w = w' := by
  have h1 := congrArg Machine.gs h
  have h2 := congrArg Machine.world h
  simp only [lone, Array.mk.injEq, List.cons.injEq, Goroutine.mk.injEq, and_true] at h1
  exact ⟨h1.1, h1.2, h2⟩

theorem terminal_never {fr : Frame} {w : World} (hf : FrOk S P fr) (hd : fr.defers = []) (hm : fr.mode ≠ .run) (n : Nat) (fr' : Frame) (w' : World) : runN P (n + 1) (lone fr [c0] w) ≠ .next (lone fr' [c0] w') := by
  have key : (∃ o w1, step P (lone fr [c0] w) = .ended o w1) ∨ ∃ c w1, step P (lone fr [c0] w) = .next (lone c [] w1) ∧ ∃ o w2, step P (lone c [] w1) = .ended o w2 := by
    obtain ⟨fn, hfn⟩ := hf.fn
    cases hmode : fr.mode with
    | run => exact absurd hmode hm
    | panicking ch =>
      right
      refine ⟨c0.raise ch, w, step_lone_go ?_, c0_raised_ends⟩
      simp [stepG, unwind, hd, hmode, Frame.catches, hfn]
    | returning =>
      have hk : fr.kind = .normal ∨ fr.kind = .deferred := hf.kind
      cases hr : (results fn fr.tmps).run P w with
      | ok v w1 =>
        right
        refine ⟨c0, w1, step_lone_go ?_, c0_ends⟩
        rcases hk with hk | hk
        · simp [stepG, unwind, hd, hmode, hfn, hr, doReturn, hk, c0, Frame.finish]
        · simp [stepG, unwind, hd, hmode, hfn, hr, doReturn, hk, c0]
      | halt x w1 =>
        left
        cases x <;> exact ⟨_, _, step_lone_ended (by simp [stepG, unwind, hd, hmode, hfn, hr]; first | rfl | exact ⟨rfl, rfl⟩)⟩
  intro e
  simp only [runN] at e
  rcases key with ⟨o, w1, h⟩ | ⟨c, w1, h, o, w2, h2⟩
  · rw [h] at e; cases e
  · rw [h] at e
    cases n with
    | zero =>
      simp only [runN, Stepped.next.injEq] at e
      exact absurd (lone_callers e).2.1 (by simp)
    | succ n =>
      simp only [runN, h2] at e
      cases e

/-- ████ FROM THE LONE RUN, ON WHATEVER TAPE, TO THE WALK BESIDE LEAVERS. ████ -/
theorem lift (X : PrgC S P) {base : List Frame} {Stop : Goroutine → World → Prop} {x : PS} (hx : Inv S P x.w.tape x) {Fin : Frame → World → Prop}
    (hlone : ∀ τ, ∃ N fr w', runN P N (lone x.fr (x.up ++ [c0]) (re x.w τ 0)) = .next (lone fr [c0] w') ∧ Fin fr w')
    (hstop : ∀ fr w τ d, FrOk S P fr → CWK S w → Fin fr (re w τ d) → ∀ d', Stop (G fr base) (w.at d')) : BW P (DIn S) Stop (G x.fr (x.up ++ base)) x.w := by
  classical
  refine Classical.byContradiction fun hn => ?_
  generalize hτ : x.w.tape = τ0 at hx
  let T := { y : PS // Inv S P τ0 y ∧ ¬ BW P (DIn S) Stop (G y.fr (y.up ++ base)) y.w }
  have nx : ∀ y : T, ∃ p : Nat × Option T, (∀ z, p.2 = some z → Link P τ0 y.1 p.1 z.1) ∧ (p.2 = none → Dead P τ0 y.1 p.1) := by
    rintro ⟨y, hy, hyn⟩
    obtain ⟨d, ⟨z, hz, hzn, hl⟩ | hd⟩ := next_of X hy hyn
    · exact ⟨(d, some ⟨z, hz, hzn⟩), fun z' e => (by cases e; exact hl), fun e => (by cases e)⟩
    · exact ⟨(d, none), fun z' e => (by cases e), fun _ => hd⟩
  obtain ⟨f, hf⟩ := Classical.axiomOfChoice nx
  let sq : Nat → T := fun n => Nat.rec ⟨x, hx, hn⟩ (fun _ y => ((f y).2).getD y) n
  have sq0 : (sq 0).1 = x := rfl
  have sqs : ∀ n, sq (n + 1) = ((f (sq n)).2).getD (sq n) := fun n => rfl
  let dd : Nat → Nat := fun n => (f (sq n)).1
  let K : Nat → Nat := fun n => Nat.rec 0 (fun n k => k + ((sq (n + 1)).1.w.drawn - dd n)) n
  have K0 : K 0 = 0 := rfl
  have Ks : ∀ n, K (n + 1) = K n + ((sq (n + 1)).1.w.drawn - dd n) := fun n => rfl
  have Kmono : ∀ n, K n ≤ K (n + 1) := fun n => by rw [Ks]; omega
  have hlink : ∀ n, (f (sq n)).2 ≠ none → Link P τ0 (sq n).1 (dd n) (sq (n + 1)).1 := by
    intro n h
    obtain ⟨z, hz⟩ := Option.ne_none_iff_exists'.1 h
    have := (hf (sq n)).1 z hz
    rw [sqs, hz]
    exact this
  have done : ∀ n τ' (fr : Frame) (w' : World), lone (sq n).1.fr ((sq n).1.up ++ [c0]) (re (sq n).1.w τ' (K n)) = lone fr [c0] w' → Fin fr w' → False := by
    intro n τ' fr w' e hfin
    obtain ⟨e1, e2, e3⟩ := lone_callers e
    have hup : (sq n).1.up = [] := by
      have := congrArg List.length e2
      simp at this
      exact this
    subst e1 e3
    refine (sq n).2.2 ?_
    rw [hup]
    exact .stop (hstop _ _ _ _ (sq n).2.1.fr (sq n).2.1.cw hfin)
  by_cases hinf : ∀ n, (f (sq n)).2 ≠ none
  · obtain ⟨τ', hτ'⟩ := glue τ0 K dd Kmono
    obtain ⟨N, fr, w', hN, hfin⟩ := hlone τ'
    have := runs_along (P := P) (sq := fun n => (sq n).1) (dd := dd) (K := K) (τ0 := τ0) (τ' := τ') (L := N) K0 (fun n _ => Ks n) (fun n _ => hlink n (hinf n)) (fun i j q _ h => hτ' i j q h) N (Nat.le_refl _)
    rw [show (sq 0).1 = x from rfl] at this
    rw [this, Stepped.next.injEq] at hN
    exact done N τ' fr w' hN hfin
  · obtain ⟨M0, hM0⟩ := Classical.not_forall.1 hinf
    obtain ⟨M, hM, hleast⟩ := least (p := fun n => (f (sq n)).2 = none) M0 (Classical.not_not.1 hM0)
    obtain ⟨τ', hτ', hfull⟩ := glue_fin τ0 K dd Kmono M
    obtain ⟨N, fr, w', hN, hfin⟩ := hlone τ'
    have along := runs_along (P := P) (sq := fun n => (sq n).1) (dd := dd) (K := K) (τ0 := τ0) (τ' := τ') (L := M) K0 (fun n _ => Ks n) (fun n h => hlink n (hleast n h)) (fun i j q hi h => hτ' i j q hi h)
    rw [show (sq 0).1 = x from rfl] at along
    rcases Nat.lt_or_ge M N with hlt | hge
    · obtain ⟨k, rfl⟩ : ∃ k, N = M + (k + 1) := ⟨N - M - 1, by omega⟩
      rw [runN_add, along M (Nat.le_refl _)] at hN
      simp only at hN
      rcases (hf (sq M)).2 hM with hbad | ⟨h1, h2, h3⟩
      · exact bad_never (hbad [c0] τ' (K M) hfull) k _ _ _ hN
      · rw [h1] at hN
        exact terminal_never (sq M).2.1.fr h2 h3 k _ _ hN
    · have := along N hge
      rw [this, Stepped.next.injEq] at hN
      exact done N τ' fr w' hN hfin
end
end Go.Proofs.YtacimedkchjfnaaGreat
end
