/- Part 15 of the proof: A9, A10. -/
import Derived.Test.YtacimedkchjfnaaGreatV14
import Derived.Conc.Own
section
/-! A run hangs on the tape by the answers that it draws alone. -/
namespace Go.Proofs.YtacimedkchjfnaaGreat
set_option linter.unusedSimpArgs false
set_option linter.unusedVariables false

def re (w : World) (τ : Nat → Question → Nat) (d : Nat) : World := { w with tape := τ, drawn := d }
def resW {α : Type} : Result α → World
  | .ok _ w => w
  | .halt _ w => w
def reR {α : Type} (τ : Nat → Question → Nat) (d : Nat) : Result α → Result α
  | .ok a w => .ok a (re w τ d)
  | .halt h w => .halt h (re w τ d)
/-- The new tape answers as the old one did, for what was drawn from w to w1. -/
def Agree (w w1 : World) (τ : Nat → Question → Nat) (d : Nat) : Prop := ∀ j q, w.drawn + j < w1.drawn → τ (d + j) q = w.tape (w.drawn + j) q

structure Local {β : Type} (w w1 : World) (f : World → β) (out : (Nat → Question → Nat) → Nat → β) : Prop where
  mono : w.drawn ≤ w1.drawn
  tape : w1.tape = w.tape
  same : ∀ τ d, Agree w w1 τ d → f (re w τ d) = out τ (d + (w1.drawn - w.drawn))

section
variable {α : Type} {S : Sc} {P : Program}

theorem ask_local {β : Type} : ∀ (k : Ask β) (w : World), Local w (w.ask k).2 (fun w => w.ask k) fun τ d => ((w.ask k).1, re (w.ask k).2 τ d)
  | .done a, w => ⟨Nat.le_refl _, rfl, fun τ d _ => by simp [World.ask]⟩
  | .ask what range k, w => by
    unfold World.ask
    dsimp only
    cases hq : (Question.extern what range).forced with
    | true =>
      simp only [if_true]
      exact ask_local (k 0) w
    | false =>
      simp only [Bool.false_eq_true, if_false]
      have ih := ask_local (k ((Question.extern what range).cut (w.tape w.drawn (.extern what range)))) { w with drawn := w.drawn + 1 }
      refine ⟨Nat.le_trans (Nat.le_succ _) ih.mono, ih.tape, fun τ d ha => ?_⟩
      have hm : w.drawn + 1 ≤ _ := ih.mono
      have h0 : τ d (.extern what range) = w.tape w.drawn (.extern what range) := ha 0 _ (by rw [Nat.add_zero]; exact hm)
      have := ih.same τ (d + 1) fun j q hj => by
        have := ha (j + 1) q (by simp only at hj; omega)
        simp only at hj ⊢
        rw [show d + 1 + j = d + (j + 1) by omega, show w.drawn + 1 + j = w.drawn + (j + 1) by omega]
        exact this
      simp only [re] at this ⊢
      rw [h0]
      refine this.trans ?_
      congr 2
      omega
theorem sys_local {c : Sys} (hc : Prompt c) (w : World) : Local w (w.sys c).2 (fun w => w.sys c) fun τ d => ((w.sys c).1, re (w.sys c).2 τ d) := by
  have ih := ask_local (Kernel.perform c w.os) w
  have hne := hc w
  have e : ∀ (x : (SysRet × Os) × World), x.1.1 ≠ .wouldBlock → (match x with | ((.wouldBlock, _), _) => (SysRet.wouldBlock, w) | ((r, os), w) => (r, { w with os })) = (x.1.1, { x.2 with os := x.1.2 }) := by
    rintro ⟨⟨r, os⟩, w'⟩ h
    cases r <;> first | rfl | exact absurd rfl h
  have key : w.sys c = ((w.ask (Kernel.perform c w.os)).1.1, { (w.ask (Kernel.perform c w.os)).2 with os := (w.ask (Kernel.perform c w.os)).1.2 }) := by
    unfold World.sys
    exact e _ hne
  rw [key]
  refine ⟨ih.mono, ih.tape, fun τ d ha => ?_⟩
  have h1 := ih.same τ d ha
  have e' : ∀ (x : (SysRet × Os) × World) (u : World), x.1.1 ≠ .wouldBlock → (match x with | ((.wouldBlock, _), _) => (SysRet.wouldBlock, u) | ((r, os), w) => (r, { w with os })) = (x.1.1, { x.2 with os := x.1.2 }) := by
    rintro ⟨⟨r, os⟩, w'⟩ u h
    cases r <;> first | rfl | exact absurd rfl h
  show World.sys (re w τ d) c = _
  unfold World.sys
  have h1' : (re w τ d).ask (Kernel.perform c (re w τ d).os) = ((w.ask (Kernel.perform c w.os)).1, re (w.ask (Kernel.perform c w.os)).2 τ (d + ((w.ask (Kernel.perform c w.os)).2.drawn - w.drawn))) := h1
  rw [h1']
  exact e' _ _ hne

theorem Local.of {β : Type} {w w1 : World} {f g : World → β} {out} (h : Local w w1 g out) (e : ∀ τ d, f (re w τ d) = g (re w τ d)) : Local w w1 f out :=
  ⟨h.mono, h.tape, fun τ d ha => (e τ d).trans (h.same τ d ha)⟩
theorem local_base {w : World} {r : Result α} {es : Array Event} {f : World → Result α × Array Event} (hr : resW r = w) (hf : ∀ τ d, f (re w τ d) = (reR τ d r, es)) : Local w (resW r) f fun τ d => (reR τ d r, es) := by
  rw [hr]
  refine ⟨Nat.le_refl _, rfl, fun τ d _ => ?_⟩
  rw [hf τ d, Nat.sub_self, Nat.add_zero]
/-- A node that goes on as another tree does, in a world that differs in no draw. -/
theorem local_node {w w' : World} {es es' : Array Event} {s t : Sem α} (h : Local w' (resW (t.runT P w' es').1) (fun w => t.runT P w es') fun τ d => (reR τ d (t.runT P w' es').1, (t.runT P w' es').2))
    (hd : w'.drawn = w.drawn) (ht : w'.tape = w.tape) (e : s.runT P w es = t.runT P w' es') (er : ∀ τ d, s.runT P (re w τ d) es = t.runT P (re w' τ d) es') :
    Local w (resW (s.runT P w es).1) (fun w => s.runT P w es) fun τ d => (reR τ d (s.runT P w es).1, (s.runT P w es).2) := by
  rw [e]
  refine ⟨by rw [← hd]; exact h.mono, by rw [← ht]; exact h.tape, fun τ d ha => ?_⟩
  show s.runT P (re w τ d) es = _
  rw [er]
  have := h.same τ d fun j q hj => by rw [hd, ht]; exact ha j q (by rw [← hd]; exact hj)
  refine this.trans ?_
  rw [hd]
theorem run_local (N : NoFloat P) {φ : α → Prop} : ∀ (s : Sem α) (w : World) (es : Array Event), CW S w → Av S P φ s →
    Local w (resW (s.runT P w es).1) (fun w => s.runT P w es) fun τ d => (reR τ d (s.runT P w es).1, (s.runT P w es).2) := by
  intro s
  induction s with
  | pure a => exact fun w es hw h => local_base rfl fun τ d => rfl
  | load m a k ih =>
    intro w es hw h
    cases hc : w.cell? a with
    | some v =>
      have hc' : ∀ τ d, (re w τ d).cell? a = some v := fun _ _ => hc
      exact local_node (ih v w (es.push ⟨.cell a, false, m == .atomic⟩) hw (h.2 _ (cell_cl hw h.1 hc))) rfl rfl (by simp only [Sem.runT, hc]) fun τ d => by simp only [Sem.runT, hc']
    | none =>
      have hc' : ∀ τ d, (re w τ d).cell? a = none := fun _ _ => hc
      cases hf : w.farLoad P a (m == .atomic) with
      | ok r =>
        obtain ⟨v, touched⟩ := r
        have hf' : ∀ τ d, (re w τ d).farLoad P a (m == .atomic) = .ok (v, touched) := fun _ _ => hf
        have hv : Cl S v := by
          unfold World.farLoad at hf
          split at hf
          · split at hf
            · cases hf
              exact (viewLoad_cl (S := S) N ‹_›).1
            · cases hf
          · cases hf
        exact local_node (ih v w (es ++ touched.toArray.map (⟨.cell ·, false, m == .atomic⟩)) hw (h.2 _ hv)) rfl rfl (by simp only [Sem.runT, hc, hf]) fun τ d => by simp only [Sem.runT, hc', hf']
      | error x =>
        have hf' : ∀ τ d, (re w τ d).farLoad P a (m == .atomic) = .error x := fun _ _ => hf
        have e : (Sem.load m a k).runT P w es = (.halt x w, es) := by simp only [Sem.runT, hc, hf]
        rw [e]
        exact local_base rfl fun τ d => by simp only [Sem.runT, hc', hf', reR]
  | store m a v k ih =>
    intro w es hw h
    by_cases hv : (∃ c, v = .agg c) ∨ ∃ c, v = .tuple c
    · have h1 : ∀ w' : World, (Sem.store m a v k).runT P w' es = (.halt (.stuck "store: not the value of one cell") w', es) := by
        intro w'
        rcases hv with ⟨c, rfl⟩ | ⟨c, rfl⟩ <;> rfl
      rw [h1]
      exact local_base rfl fun τ d => h1 _
    have h0 : ∀ w' : World, (Sem.store m a v k).runT P w' es = (match w'.cell? a with
        | some _ => if w'.frozen? a then (.halt (.unsupported (.unsafePointer "a write to bytes that a string shares")) w', es) else k.runT P (w'.setCell a v) (es.push ⟨.cell a, true, m == .atomic⟩)
        | none => match w'.farStore P a v (m == .atomic) with
          | .ok (w, touched) => k.runT P w (es ++ touched.toArray.map (⟨.cell ·, true, m == .atomic⟩))
          | .error h => (.halt h w', es)) := by
      intro w'
      cases v <;> first | rfl | exact absurd (.inl ⟨_, rfl⟩) hv | exact absurd (.inr ⟨_, rfl⟩) hv
    cases hc : w.cell? a with
    | some x =>
      have hc' : ∀ τ d, (re w τ d).cell? a = some x := fun _ _ => hc
      cases hz : w.frozen? a with
      | true =>
        have hz' : ∀ τ d, (re w τ d).frozen? a = true := fun _ _ => hz
        have e : (Sem.store m a v k).runT P w es = (.halt (.unsupported (.unsafePointer "a write to bytes that a string shares")) w, es) := by rw [h0]; simp only [hc, hz, if_true]
        rw [e]
        exact local_base rfl fun τ d => by simp only [h0, hc', hz', if_true, reR]
      | false =>
        have hz' : ∀ τ d, (re w τ d).frozen? a = false := fun _ _ => hz
        have hs : ∀ τ d, (re w τ d).setCell a v = re (w.setCell a v) τ d := fun _ _ => rfl
        exact local_node (ih (w.setCell a v) (es.push ⟨.cell a, true, m == .atomic⟩) (keep_setCell hw h.1 h.2.1).cw h.2.2) rfl rfl (by rw [h0]; simp only [hc, hz, Bool.false_eq_true, if_false]) fun τ d => by simp only [h0, hc', hz', hs, Bool.false_eq_true, if_false]
    | none =>
      have hc' : ∀ τ d, (re w τ d).cell? a = none := fun _ _ => hc
      have hfe : ∀ τ d, (re w τ d).farStore P a v (m == .atomic) = (w.farStore P a v (m == .atomic)).map fun r => (re r.1 τ d, r.2) := by
        intro τ d
        unfold World.farStore
        have e1 : (re w τ d).heap = w.heap := rfl
        rw [e1]
        split
        · rename_i at_ u _
          have e2 : (re w τ d).viewStore P at_ u a v (m == .atomic) = (w.viewStore P at_ u a v (m == .atomic)).map fun r => (re r.1 τ d, r.2) := by
            unfold World.viewStore
            have e3 : (re w τ d).seen P at_ u a (m == .atomic) = w.seen P at_ u a (m == .atomic) := rfl
            rw [e3]
            simp only [bind, Except.bind, pure, Except.pure, throw, throwThe, MonadExceptOf.throw]
            repeat' (first | rfl | split)
          rw [e2]
          cases w.viewStore P at_ u a v (m == .atomic) <;> rfl
        · rfl
      cases hf : w.farStore P a v (m == .atomic) with
      | ok r =>
        obtain ⟨w', touched⟩ := r
        have hf' : ∀ τ d, (re w τ d).farStore P a v (m == .atomic) = .ok (re w' τ d, touched) := fun τ d => by rw [hfe, hf]; rfl
        have hk : Keep S w w' ∧ w'.drawn = w.drawn ∧ w'.tape = w.tape := by
          unfold World.farStore at hf
          split at hf
          · rename_i at_ u hv
            have hat : S.b at_.block := by cases hw.objs _ _ h.1 hv; assumption
            split at hf
            · rename_i hvs
              cases hf
              refine ⟨(viewStore_cl N hw hat hvs).1, ?_⟩
              unfold World.viewStore at hvs
              simp only [bind, Except.bind, pure, Except.pure, throw, throwThe, MonadExceptOf.throw] at hvs
              repeat' (split at hvs <;> try (first | (cases hvs; done)))
              all_goals (first | (cases hvs; done) | (cases hvs; exact ⟨rfl, rfl⟩))
            · cases hf
          · cases hf
        exact local_node (ih w' (es ++ touched.toArray.map (⟨.cell ·, true, m == .atomic⟩)) hk.1.cw h.2.2) hk.2.1 hk.2.2 (by rw [h0]; simp only [hc, hf]) fun τ d => by simp only [h0, hc', hf']
      | error x =>
        have hf' : ∀ τ d, (re w τ d).farStore P a v (m == .atomic) = .error x := fun τ d => by rw [hfe, hf]; rfl
        have e : (Sem.store m a v k).runT P w es = (.halt x w, es) := by rw [h0]; simp only [hc, hf]
        rw [e]
        exact local_base rfl fun τ d => by simp only [h0, hc', hf', reR]
  | new o k ih =>
    intro w es hw h
    exact local_node (ih _ _ es (keep_new hw h.1).cw (h.2 _ (hw.fresh _ (Nat.le_refl _)))) rfl rfl rfl fun τ d => rfl
  | shape r k ih => exact fun w es hw h => local_node (ih _ w es hw (h.2 _)) rfl rfl rfl fun τ d => rfl
  | freeze a n k ih =>
    intro w es hw h
    refine local_node (ih _ es (keep_freeze hw h.1).cw h.2) ?_ ?_ rfl fun τ d => ?_
    · unfold World.freeze; split <;> rfl
    · unfold World.freeze; split <;> rfl
    · simp only [Sem.runT]
      congr 1
      unfold World.freeze re
      split <;> rfl
  | frozen a k ih => exact fun w es hw h => local_node (ih _ w es hw (h.2 _)) rfl rfl rfl fun τ d => rfl
  | getObj r k ih =>
    intro w es hw h
    have hr : ∀ τ d, (re w τ d).heap[r]? = w.heap[r]? := fun _ _ => rfl
    cases ho : w.heap[r]? with
    | none =>
      have e : (Sem.getObj r k).runT P w es = (.halt (.stuck "getObj: no such block") w, es) := by simp only [Sem.runT, ho]
      rw [e]
      exact local_base rfl fun τ d => by simp only [Sem.runT, hr, ho, reR]
    | some o =>
      by_cases hcs : ∃ c e f, o = .cells c e f
      · obtain ⟨c, t, f, rfl⟩ := hcs
        have e : (Sem.getObj r k).runT P w es = (.halt (.stuck "getObj: a row of cells") w, es) := by simp only [Sem.runT, ho]
        rw [e]
        exact local_base rfl fun τ d => by simp only [Sem.runT, hr, ho, reR]
      · have h1 : ∀ w' : World, w'.heap[r]? = some o → (Sem.getObj r k).runT P w' es = (k o).runT P w' (es.push ⟨.obj r, false, o.isChan⟩) := by
          intro w' hw'
          simp only [Sem.runT, hw']
          cases o <;> first | rfl | exact absurd ⟨_, _, _, rfl⟩ hcs
        exact local_node (ih o w _ hw (h.2 _ (hw.objs _ _ h.1 ho))) rfl rfl (h1 w ho) fun τ d => h1 _ ho
  | setObj r o k ih =>
    intro w es hw h
    have hr : ∀ τ d, (re w τ d).heap[r]? = w.heap[r]? := fun _ _ => rfl
    cases hx : w.heap[r]? with
    | none =>
      have e : (Sem.setObj r o k).runT P w es = (.halt (.stuck "setObj: no such block") w, es) := by simp only [Sem.runT, hx]
      rw [e]
      exact local_base rfl fun τ d => by simp only [Sem.runT, hr, hx, reR]
    | some x =>
      by_cases hcs : ∃ c e f, x = .cells c e f
      · obtain ⟨c, t, f, rfl⟩ := hcs
        have e : (Sem.setObj r o k).runT P w es = (.halt (.stuck "setObj: a row of cells") w, es) := by simp only [Sem.runT, hx]
        rw [e]
        exact local_base rfl fun τ d => by simp only [Sem.runT, hr, hx, reR]
      · have h1 : ∀ w' : World, w'.heap[r]? = some x → (Sem.setObj r o k).runT P w' es = k.runT P { w' with heap := w'.heap.setIfInBounds r o } (es.push ⟨.obj r, true, o.isChan⟩) := by
          intro w' hw'
          simp only [Sem.runT, hw']
          cases x <;> first | rfl | exact absurd ⟨_, _, _, rfl⟩ hcs
        exact local_node (ih _ _ (keep_set hw h.1 h.2.1).cw h.2.2) rfl rfl (h1 w hx) fun τ d => h1 _ hx
  | choose q k ih =>
    intro w es hw h
    cases hq : q.forced with
    | true => exact local_node (ih 0 w es hw (h _)) rfl rfl (by simp only [Sem.runT, hq, if_true]) fun τ d => by simp only [Sem.runT, hq, if_true]
    | false =>
      have hk : Keep S w { w with drawn := w.drawn + 1 } := keep_same hw rfl rfl
      have i := ih (q.cut (w.tape w.drawn q)) { w with drawn := w.drawn + 1 } es hk.cw (h _)
      have e : ∀ w' : World, (Sem.choose q k).runT P w' es = (k (q.cut (w'.tape w'.drawn q))).runT P { w' with drawn := w'.drawn + 1 } es := fun w' => by simp only [Sem.runT, hq, Bool.false_eq_true, if_false]
      rw [e]
      refine ⟨Nat.le_trans (Nat.le_succ _) i.mono, i.tape, fun τ d ha => ?_⟩
      show (Sem.choose q k).runT P (re w τ d) es = _
      rw [e]
      have hm : w.drawn + 1 ≤ _ := i.mono
      have h0 : τ d q = w.tape w.drawn q := ha 0 q (by rw [Nat.add_zero]; exact hm)
      have := i.same τ (d + 1) fun j q hj => by
        have := ha (j + 1) q (by simp only at hj; omega)
        simp only at hj ⊢
        rw [show d + 1 + j = d + (j + 1) by omega, show w.drawn + 1 + j = w.drawn + (j + 1) by omega]
        exact this
      simp only [re] at this ⊢
      rw [h0]
      refine this.trans ?_
      have : d + 1 + ((resW (Sem.runT P (k (q.cut (w.tape w.drawn q))) { w with drawn := w.drawn + 1 } es).1).drawn - (w.drawn + 1)) = d + ((resW (Sem.runT P (k (q.cut (w.tape w.drawn q))) { w with drawn := w.drawn + 1 } es).1).drawn - w.drawn) := by omega
      rw [this]
  | sys c k ih =>
    intro w es hw h
    have l := sys_local h.1 w
    have hk := keep_same hw (sys_heap w c).1 (sys_heap w c).2
    have i := ih (w.sys c).1 (w.sys c).2 (es.push ⟨.output, true, false⟩) hk.cw (h.2 _)
    refine ⟨Nat.le_trans l.mono i.mono, i.tape.trans l.tape, fun τ d ha => ?_⟩
    have hm := i.mono
    have hl := l.mono
    have h1 := l.same τ d fun j q hj => ha j q (Nat.lt_of_lt_of_le hj hm)
    have h2 := i.same τ (d + ((w.sys c).2.drawn - w.drawn)) fun j q hj => by
      have := ha (((w.sys c).2.drawn - w.drawn) + j) q (by show _ < (resW (Sem.runT P (k (w.sys c).1) (w.sys c).2 (es.push ⟨.output, true, false⟩)).1).drawn; omega)
      rw [l.tape, show (w.sys c).2.drawn + j = w.drawn + ((w.sys c).2.drawn - w.drawn + j) by omega, show d + ((w.sys c).2.drawn - w.drawn) + j = d + ((w.sys c).2.drawn - w.drawn + j) by omega]
      exact this
    show (k ((re w τ d).sys c).1).runT P ((re w τ d).sys c).2 (es.push ⟨.output, true, false⟩) = _
    have h1' : (re w τ d).sys c = ((w.sys c).1, re (w.sys c).2 τ (d + ((w.sys c).2.drawn - w.drawn))) := h1
    rw [h1']
    refine h2.trans ?_
    have : d + ((w.sys c).2.drawn - w.drawn) + ((resW (Sem.runT P (k (w.sys c).1) (w.sys c).2 (es.push ⟨.output, true, false⟩)).1).drawn - (w.sys c).2.drawn) = d + ((resW (Sem.runT P (k (w.sys c).1) (w.sys c).2 (es.push ⟨.output, true, false⟩)).1).drawn - w.drawn) := by omega
    rw [this]
    rfl
  | program k ih => exact fun w es hw h => local_node (ih P w es hw h) rfl rfl rfl fun τ d => rfl
  | mark m k ih => exact fun w es hw h => local_node (ih w _ hw h.2) rfl rfl rfl fun τ d => rfl
  | halt x => exact fun w es hw h => local_base rfl fun τ d => rfl
end
end Go.Proofs.YtacimedkchjfnaaGreat
end

section
/-! A goroutine's step within S: what it leaves; that it hangs neither on the callers far below nor on the tape beyond its draws. -/
namespace Go.Proofs.YtacimedkchjfnaaGreat
set_option linter.unusedSimpArgs false
set_option linter.unusedVariables false
open Go.Conc

/-- What a slot may hold that is given over to what came in. -/
inductive KV (S : Sc) : Value → Prop
  | cl (v : Value) (h : Cl S v) : KV S v
  | slice (a : Addr) (n c : Nat) (h : ∀ i, i < n → S.k (a.add i)) : KV S (.slice (some a) n c)
  | ptr (a : Addr) (h : S.k a) : KV S (.pointer (some a))
/-- An operand that is none of those slots. -/
def Avoid (S : Sc) (f : Nat) : Operand → Prop
  | .tmp t => S.d f t = false
  | _ => True
/-- An operation: it handles what came in, if at all, in one of a few ways. -/
inductive KOp (S : Sc) (P : Program) (f : Nat) (o : Oper) : Prop
  | plain (h : OpOk S P o.op) (ha : ∀ x ∈ o.op.operands, Avoid S f x)
  | move (t t' : Tmp) (h : o.op = .move (.tmp t)) (hd : o.dst = some t') (hD : S.d f t' = true)
  | addr (ty el : TypeId) (t t' : Tmp) (i : Operand) (h : o.op = .indexAddr ty (.tmp t) i) (hi : OperandOk S i) (ha : Avoid S f i) (hu : P.underlying ty = some (.slice el)) (hs : ∀ j, P.info? el = some j → j.size = 1) (hd : o.dst = some t') (hD : S.d f t' = true)
  | load (ty : TypeId) (t : Tmp) (h : o.op = .load ty (.tmp t)) (hg : P.underlying ty = some .string)
  | len (ty el : TypeId) (t : Tmp) (h : o.op = .call { callee := .builtin .len, args := #[.tmp t], argTypes := #[ty] }) (hu : P.underlying ty = some (.slice el))
  | call (g : FuncId) (args : Array Operand) (ats : Array TypeId) (h : o.op = .call { callee := .value (.func g), args := args, argTypes := ats }) (hg : S.f (.func g)) (hb : ∃ fn, P.funcs[g]? = some fn ∧ (fn.name == "runtime.NumGoroutine") = false ∧ fn.body.isNone = false)
      (ha : ∀ (i : Nat) x, args[i]? = some x → OperandOk S x ∧ (S.d g i = false → Avoid S f x))
def CodeOk (S : Sc) (P : Program) (f : Nat) : Code → Prop
  | .skip | .exit _ | .label _ | .goto _ | .ret | .refuse _ => True
  | .region _ ops _ => ∀ o ∈ ops, KOp S P f o
  | .seq a b => CodeOk S P f a ∧ CodeOk S P f b
  | .cond _ a b => CodeOk S P f a ∧ CodeOk S P f b
  | .block _ c | .loop c | .scope c => CodeOk S P f c
  | .rangeFunc .. => False
def ItemOk (S : Sc) (P : Program) (f : Nat) : Item → Prop
  | .code c | .inLoop c | .inScope c => CodeOk S P f c
  | .inBlock _ => True
  | .inRegion ops rest => ∀ i ∈ rest, ∀ o, ops[i]? = some o → KOp S P f o
  | _ => False

structure FrOk (S : Sc) (P : Program) (fr : Frame) : Prop where
  items : ∀ x ∈ fr.todo, ItemOk S P fr.fn x
  tmps : ∀ (t : Nat) v, fr.tmps[t]? = some v → KV S v ∧ (S.d fr.fn t = false → Cl S v)
  defers : ∀ d ∈ fr.defers, ClD S d
  round : fr.roundOf = none
  mode : ∀ chain, fr.mode = .panicking chain → ∀ e ∈ chain, Cl S e.v
  fn : ∃ fn, P.funcs[fr.fn]? = some fn
  kind : fr.kind = .normal ∨ fr.kind = .deferred

structure PrgC (S : Sc) (P : Program) : Prop extends PrgF S P where
  nofloat : NoFloat P
  code : ∀ f fn c, S.f (.func f) → P.funcs[f]? = some fn → fn.body = some c → CodeOk S P f c
  res : ∀ f fn (t : Tmp), P.funcs[f]? = some fn → (.tmp t ∈ fn.results ∨ ∃ ty, .cell t ty ∈ fn.results) → S.d f t = false

/-- A step that leads away: the run never comes back to a plain goroutine. -/
inductive Bad : GStep → Prop
  | ended (o : Outcome) (w : World) (es : Array Event) : Bad (.ended o w es)
  | blocked (g : Goroutine) (w : World) (es : Array Event) (h : g.status = .blocked) (hd : g.dying = none) (ho : g.offers = none) : Bad (.go g w es)
  | dying (g : Goroutine) (w : World) (es : Array Event) (d : Dying) (h : g.dying = some d) (hc : d.calling = false) (hf : d.fatal.isSome = true) (hs : g.status = .running) : Bad (.go g w es)

theorem codeOk_findLabel {S : Sc} {P : Program} {f l : Nat} : ∀ {c r : Code}, CodeOk S P f c → findLabel c l = some r → CodeOk S P f r := by
  intro c
  induction c with
  | seq a b iha ihb =>
    intro r h hr
    unfold findLabel at hr
    split at hr
    · cases hr; exact ⟨iha h.1 ‹_›, h.2⟩
    · exact ihb h.2 hr
  | label l' =>
    intro r h hr
    unfold findLabel at hr
    split at hr
    · cases hr; trivial
    · cases hr
  | _ => intro r h hr; simp [findLabel] at hr
theorem items_exitTo {S : Sc} {P : Program} {f id : Nat} : ∀ {k r : List Item}, (∀ x ∈ k, ItemOk S P f x) → exitTo id k = some r → ∀ x ∈ r, ItemOk S P f x := by
  intro k
  induction k with
  | nil => intro r _ h; simp [exitTo] at h
  | cons a k ih =>
    intro r hk h
    have hk' : ∀ x ∈ k, ItemOk S P f x := fun x hx => hk x (by simp [hx])
    unfold exitTo at h
    split at h
    · rename_i heq
      split at h
      · cases h; injection heq with h1 h2; subst h2; exact hk'
      · injection heq with h1 h2; subst h2; exact ih hk' h
    · rename_i heq; injection heq with h1 h2; subst h2; exact ih hk' h
    · rename_i heq; cases heq
theorem items_gotoIn {S : Sc} {P : Program} {f l : Nat} : ∀ {k r : List Item}, (∀ x ∈ k, ItemOk S P f x) → gotoIn l k = some r → ∀ x ∈ r, ItemOk S P f x := by
  intro k
  induction k with
  | nil => intro r _ h; simp [gotoIn] at h
  | cons a k ih =>
    intro r hk h
    have hk' : ∀ x ∈ k, ItemOk S P f x := fun x hx => hk x (by simp [hx])
    have ha : ItemOk S P f a := hk a (by simp)
    unfold gotoIn at h
    split at h
    · rename_i body k' heq
      injection heq with h1 h2
      subst h1 h2
      split at h
      · cases h
        intro x hx
        simp only [List.mem_cons] at hx
        rcases hx with rfl | rfl | hx
        · exact codeOk_findLabel ha ‹_›
        · exact ha
        · exact hk' x hx
      · exact ih hk' h
    · rename_i heq; injection heq with h1 h2; subst h2; exact ih hk' h
    · rename_i heq; cases heq
theorem eval_kv {S : Sc} {P : Program} {fr : Frame} (h : FrOk S P fr) {x : Operand} (hx : OperandOk S x) : KV S (fr.eval x) ∧ (Avoid S fr.fn x → Cl S (fr.eval x)) := by
  cases hx with
  | tmp t =>
    show KV S (fr.tmps.getD t undef) ∧ (S.d fr.fn t = false → Cl S (fr.tmps.getD t undef))
    rw [Array.getD_eq_getD_getElem?]
    cases hv : fr.tmps[t]? with
    | none => exact ⟨.cl _ cl_undef, fun _ => cl_undef⟩
    | some v => exact h.tmps t v hv
  | const v h => exact ⟨.cl _ h, fun _ => h⟩
  | global g h => exact ⟨.cl _ (.ptr _ h), fun _ => .ptr _ h⟩
  | func f h => exact ⟨.cl _ (.func _ _ _ h (by simp) (by simp)), fun _ => .func _ _ _ h (by simp) (by simp)⟩
theorem tmps_set {S : Sc} {f : Nat} {T : Array Value} (h : ∀ (t : Nat) v, T[t]? = some v → KV S v ∧ (S.d f t = false → Cl S v)) {v : Value} {i : Nat} (hv : KV S v) (hc : S.d f i = false → Cl S v) : ∀ (t : Nat) x, (T.setIfInBounds i v)[t]? = some x → KV S x ∧ (S.d f t = false → Cl S x) := by
  intro t x hx
  rw [Array.getElem?_setIfInBounds] at hx
  split at hx
  · rename_i e
    subst e
    split at hx
    · cases hx; exact ⟨hv, hc⟩
    · cases hx
  · exact h t x hx
theorem FrOk.finishK {S : Sc} {P : Program} {fr : Frame} (h : FrOk S P fr) {v : Value} (hv : KV S v)
    (hc : ∀ ops i rest k t, fr.todo = .inRegion ops (i :: rest) :: k → (ops[i]?).bind (·.dst) = some t → S.d fr.fn t = false → Cl S v) : FrOk S P (fr.finish v) := by
  unfold Frame.finish
  split
  · rename_i ops i rest k ht
    refine ⟨?_, ?_, h.defers, h.round, h.mode, h.fn, h.kind⟩
    · intro x hx
      simp only [List.mem_cons] at hx
      rcases hx with rfl | hx
      · exact fun j hj o ho => h.items (.inRegion ops (i :: rest)) (by rw [ht]; simp) j (List.mem_cons_of_mem _ hj) o ho
      · exact h.items x (by rw [ht]; simp [hx])
    · dsimp only
      split
      · exact tmps_set h.tmps hv (hc _ _ _ _ _ ht ‹_›)
      · exact h.tmps
  · rename_i ht; have hf := h.items _ (by rw [ht]; exact List.mem_cons_self); exact (hf : False).elim
  · rename_i ht; have hf := h.items _ (by rw [ht]; exact List.mem_cons_self); exact (hf : False).elim
  · rename_i ht; have hf := h.items _ (by rw [ht]; exact List.mem_cons_self); exact (hf : False).elim
  · rename_i ht; have hf := h.items _ (by rw [ht]; exact List.mem_cons_self); exact (hf : False).elim
  · exact h
theorem FrOk.finish {S : Sc} {P : Program} {fr : Frame} (h : FrOk S P fr) {v : Value} (hv : Cl S v) : FrOk S P (fr.finish v) := h.finishK (.cl _ hv) fun _ _ _ _ _ _ _ _ => hv
theorem FrOk.todo {S : Sc} {P : Program} {fr : Frame} (h : FrOk S P fr) {k : List Item} (hk : ∀ x ∈ k, ItemOk S P fr.fn x) : FrOk S P { fr with todo := k } := ⟨hk, h.tmps, h.defers, h.round, h.mode, h.fn, h.kind⟩
theorem FrOk.raise {S : Sc} {P : Program} {fr : Frame} (h : FrOk S P fr) {vs : List PanicEntry} (hv : ∀ e ∈ vs, Cl S e.v) : FrOk S P (fr.raise vs) := by
  unfold Frame.raise
  split
  · rename_i chain hc
    refine ⟨h.items, h.tmps, h.defers, h.round, ?_, h.fn, h.kind⟩
    intro ch e x hx
    cases e
    rcases List.mem_append.1 hx with hx | hx
    · exact hv x hx
    · exact h.mode _ hc x hx
  · refine ⟨h.items, h.tmps, h.defers, h.round, ?_, h.fn, h.kind⟩
    intro ch e x hx
    cases e
    exact hv x hx
theorem frOk_enterK {S : Sc} {P : Program} (X : PrgC S P) {f : FuncId} {args : Array Value} {k : CallKind} (hk : k = .normal ∨ k = .deferred) (hf : S.f (.func f)) (hb : ∃ fn, P.funcs[f]? = some fn ∧ fn.body.isNone = false)
    (ha : ∀ (i : Nat) v, args[i]? = some v → KV S v ∧ (S.d f i = false → Cl S v)) : FrOk S P (Frame.enter P f args k) := by
  obtain ⟨fn, hfn, hb⟩ := hb
  obtain ⟨c, hc⟩ : ∃ c, fn.body = some c := by
    cases h : fn.body with
    | none => rw [h] at hb; cases hb
    | some c => exact ⟨c, rfl⟩
  refine ⟨?_, ?_, by simp [Frame.enter], rfl, fun ch h => by simp [Frame.enter] at h, ⟨fn, hfn⟩, hk⟩
  · intro x hx
    simp only [Frame.enter, hfn, Option.bind_some, hc, Option.getD_some, List.mem_singleton] at hx
    subst hx
    exact X.code f fn c hf hfn hc
  · intro t v hv
    simp only [Frame.enter] at hv
    rw [Array.getElem?_append] at hv
    split at hv
    · exact ha t v hv
    · have := Array.mem_of_getElem? hv
      rw [Array.mem_replicate] at this
      rw [this.2]
      exact ⟨.cl _ cl_undef, fun _ => cl_undef⟩
theorem frOk_enter {S : Sc} {P : Program} (X : PrgC S P) {f : FuncId} {args : Array Value} {k : CallKind} (hk : k = .normal ∨ k = .deferred) (hf : S.f (.func f)) (hb : ∃ fn, P.funcs[f]? = some fn ∧ fn.body.isNone = false) (ha : ClA S args) : FrOk S P (Frame.enter P f args k) :=
  frOk_enterK X hk hf hb fun i v h => ⟨.cl _ (ha.get h), fun _ => ha.get h⟩
end Go.Proofs.YtacimedkchjfnaaGreat
end
