/- Part 0 of the proof: B0, B1, B2, B3. -/
import Derived.Conc.Beside
import Derived.Conc.CrowdSel
import Derived.Conc.CrowdTrace
import Derived.Conc.Company
import Derived.Below
section
/-! The phase in which goroutine 0 hands jobs to three workers: the judgement (a walk in company, the goroutine's deafness counted), the relies, the guarantees. -/
namespace Go.Proofs.YtacimedkchjfnaaGreat
set_option linter.unusedSimpArgs false
set_option linter.unusedVariables false
open Go.Conc
open Go.ConcR (KK wgBlock WgAt stA smA rd wr mk deafBehind_cons deafBehind_one)
open Go.ConcN (WgLive)

/-! ### the judgement -/
/-- Within n own steps at a stop; d: how deep the goroutine's deafness is. -/
def GD (P : Program) (main : Bool) (R : World → World → Prop) (D : Nat → World → World → Array Event → Prop) (Stop : Nat → Goroutine → World → Prop) : Nat → Nat → Goroutine → World → Prop
  | 0, d, g, w => ∀ w₁, R w w₁ → Stop d g w₁
  | n + 1, d, g, w => (∀ w₁, R w w₁ → Stop d g w₁) ∨ (g.status = .running ∧ ∀ w₁, R w w₁ → (stepG P main g w₁).goes fun g' w' es => D d w₁ w' es ∧ GD P main R D Stop n (deafBehind d es) g' w')
section
variable {P : Program} {main : Bool} {R : World → World → Prop} {D : Nat → World → World → Array Event → Prop} {Stop : Nat → Goroutine → World → Prop}
theorem GD.stop {n d : Nat} {g : Goroutine} {w : World} (h : ∀ w₁, R w w₁ → Stop d g w₁) : GD P main R D Stop n d g w := by
  cases n with
  | zero => exact h
  | succ n => exact .inl h
theorem GD.step {n d : Nat} {g : Goroutine} {w : World} (hs : g.status = .running)
    (h : ∀ w₁, R w w₁ → (stepG P main g w₁).goes fun g' w' es => D d w₁ w' es ∧ GD P main R D Stop n (deafBehind d es) g' w') : GD P main R D Stop (n + 1) d g w := .inr ⟨hs, h⟩
theorem GD.rely (trans : ∀ a b c, R a b → R b c → R a c) {n d : Nat} {g : Goroutine} {w w₁ : World} (h : GD P main R D Stop n d g w) (hr : R w w₁) : GD P main R D Stop n d g w₁ := by
  cases n with
  | zero => exact fun w₂ h₂ => h w₂ (trans _ _ _ hr h₂)
  | succ n =>
    rcases h with h | ⟨hs, h⟩
    · exact .inl fun w₂ h₂ => h w₂ (trans _ _ _ hr h₂)
    · exact .inr ⟨hs, fun w₂ h₂ => h w₂ (trans _ _ _ hr h₂)⟩
theorem GD.more {n d : Nat} {g : Goroutine} {w : World} (h : GD P main R D Stop n d g w) : GD P main R D Stop (n + 1) d g w := by
  induction n generalizing d g w with
  | zero => exact .inl h
  | succ n ih =>
    rcases h with h | ⟨hs, h⟩
    · exact .inl h
    · refine .inr ⟨hs, fun w₁ h₁ => ?_⟩
      have := h w₁ h₁
      revert this
      cases stepG P main g w₁ <;> simp only [GStep.goes, imp_self]
      exact fun ⟨d, x⟩ => ⟨d, ih x⟩
theorem GD.mono {n n' d : Nat} {g : Goroutine} {w : World} (h : GD P main R D Stop n d g w) (hn : n ≤ n') : GD P main R D Stop n' d g w := by
  induction hn with
  | refl => exact h
  | step _ ih => exact ih.more
/-- What is asked at the stop may be weaker, where the world is one that the rely allows. -/
theorem GD.weaken {Stop' : Nat → Goroutine → World → Prop} (hS : ∀ d g w, Stop d g w → Stop' d g w) {n d : Nat} {g : Goroutine} {w : World} (h : GD P main R D Stop n d g w) : GD P main R D Stop' n d g w := by
  induction n generalizing d g w with
  | zero => exact fun w₁ h₁ => hS _ _ _ (h w₁ h₁)
  | succ n ih =>
    rcases h with h | ⟨hs, h⟩
    · exact .inl fun w₁ h₁ => hS _ _ _ (h w₁ h₁)
    · refine .inr ⟨hs, fun w₁ h₁ => ?_⟩
      have := h w₁ h₁
      revert this
      cases stepG P main g w₁ <;> simp only [GStep.goes, imp_self]
      exact fun ⟨d, x⟩ => ⟨d, ih x⟩
/-- A walk of the library's judgement, then one of this. -/
theorem GD.after {D₀ : World → World → Array Event → Prop} {m d : Nat} (hD : ∀ w w' es, D₀ w w' es → D d w w' es ∧ deafBehind d es = d) :
    ∀ (n : Nat) {g : Goroutine} {w : World}, (∀ a b c, R a b → R b c → R a c) → (∀ w, R w w) → Goes P main R D₀ (fun g w => GD P main R D Stop m d g w) n g w → GD P main R D Stop (m + n) d g w := by
  intro n
  induction n with
  | zero => intro g w tr rf h; exact h w (rf w)
  | succ n ih =>
    intro g w tr rf h
    rcases h with h | ⟨hs, h⟩
    · exact (h w (rf w)).mono (by omega)
    · refine .inr ⟨hs, fun w₁ h₁ => ?_⟩
      have := h w₁ h₁
      revert this
      cases stepG P main g w₁ <;> simp only [GStep.goes, imp_self]
      rename_i g' w' es
      rintro ⟨hd, x⟩
      refine ⟨(hD _ _ _ hd).1, ?_⟩
      rw [(hD _ _ _ hd).2]
      exact ih tr rf x
theorem GD.running (rf : ∀ w, R w w) (hS : ∀ d g w, Stop d g w → g.status = .running) {n d : Nat} {g : Goroutine} {w : World} (h : GD P main R D Stop n d g w) : g.status = .running := by
  cases n with
  | zero => exact hS _ _ _ (h w (rf w))
  | succ n =>
    rcases h with h | ⟨hs, _⟩
    · exact hS _ _ _ (h w (rf w))
    · exact hs
/-- Where it stands: at its stop, or ahead of a step. -/
theorem GD.out (rf : ∀ w, R w w) {n d : Nat} {g : Goroutine} {w : World} (h : GD P main R D Stop n d g w) :
    Stop d g w ∨ ∃ n', n = n' + 1 ∧ ∃ g' w' es, stepG P main g w = .go g' w' es ∧ D d w w' es ∧ GD P main R D Stop n' (deafBehind d es) g' w' := by
  cases n with
  | zero => exact .inl (h w (rf w))
  | succ n =>
    rcases h with h | ⟨_, h⟩
    · exact .inl (h w (rf w))
    · right
      have := h w (rf w)
      generalize hs : stepG P main g w = s at this
      cases s <;> simp only [GStep.goes] at this
      exact ⟨n, rfl, _, _, _, rfl, this.1, this.2⟩
/-- .. the stop, whatever the others have done. -/
theorem GD.out' (rf : ∀ w, R w w) {n d : Nat} {g : Goroutine} {w : World} (h : GD P main R D Stop n d g w) :
    (∀ w₁, R w w₁ → Stop d g w₁) ∨ ∃ n', n = n' + 1 ∧ ∃ g' w' es, stepG P main g w = .go g' w' es ∧ D d w w' es ∧ GD P main R D Stop n' (deafBehind d es) g' w' := by
  cases n with
  | zero => exact .inl h
  | succ n =>
    rcases h with h | ⟨_, h⟩
    · exact .inl h
    · right
      have := h w (rf w)
      generalize hs : stepG P main g w = s at this
      cases s <;> simp only [GStep.goes] at this
      exact ⟨n, rfl, _, _, _, rfl, this.1, this.2⟩
end

/-! ### the numbers of a phase -/
structure Ph where
  /-- the WaitGroup's type; its block; the results' block; the jobs' channel; the end's -/
  ty : TypeId
  Wg : Nat
  C : Nat
  J : Nat
  E : Nat
  /-- below it: what was there when the call began; below 'L0': what is there when the first worker is started -/
  Lo : Nat
  L0 : Nat
  N : Nat
  ety : TypeId
  val : Nat → Value
  job : Nat → Value
  zj : Value
  ze : Value
  W0 : World
  /-- the first worker's number -/
  c : Nat
  Shun : Loc → Prop
  /-- the trace's length when the phase begins -/
  T0 : Nat

namespace Ph
variable (x : Ph)
/-- The blocks that stand for the whole of the phase. -/
def Fx (b : Nat) : Prop := b < x.L0 ∧ b ≠ x.Wg ∧ b ≠ x.C ∧ b ≠ x.J ∧ b ≠ x.E
def Sh (l : Loc) : Prop := ∃ a : Addr, l = .cell a ∧ a.block = x.Wg
/-- What a worker may read. -/
def RdB (b : Nat) : Prop := x.Lo ≤ b ∧ x.Fx b
def RdL (l : Loc) : Prop := ∃ a : Addr, l = .cell a ∧ x.RdB a.block
def oc (q : Nat) : Addr := ⟨x.C, q, none⟩
def Pay (w : World) : Prop := ∃ cs : Array Value, w.heap[x.C]? = some (.cells cs x.ety) ∧ cs.size = x.N
structure WI (w : World) : Prop where
  fix : ∀ b, x.Fx b → w.heap[b]? = x.W0.heap[b]?
  size : x.L0 ≤ w.heap.size
  live : WgLive x.ty x.Wg w
  pay : x.Pay w
  tape : w.tape = x.W0.tape
  os : w.os = x.W0.os
  output : w.output = x.W0.output
/-- The blocks differ. -/
structure Geo : Prop where
  wg : x.Wg < x.L0
  c : x.C < x.L0
  j : x.J < x.L0
  e : x.E < x.L0
  wgc : x.Wg ≠ x.C
  wgj : x.Wg ≠ x.J
  wge : x.Wg ≠ x.E
  cj : x.C ≠ x.J
  ce : x.C ≠ x.E
  je : x.J ≠ x.E
  lo : x.Lo ≤ x.Wg ∧ x.Lo ≤ x.C ∧ x.Lo ≤ x.J ∧ x.Lo ≤ x.E
  c1 : 1 ≤ x.c
  /-- what is shunned is elder -/
  shun : ∀ l, x.Shun l → ∃ a : Addr, l = .cell a ∧ a.block < x.Lo

/-! ### what a worker suffers -/
structure RK (o q : Option Nat) (w w₁ : World) : Prop where
  fix : ∀ b, x.Fx b → w₁.heap[b]? = w.heap[b]?
  live : WgLive x.ty x.Wg w → WgLive x.ty x.Wg w₁
  wi : x.WI w → x.WI w₁
  own : ∀ b, o = some b → w₁.heap[b]? = w.heap[b]?
  cell : ∀ i, q = some i → w₁.cell? (x.oc i) = w.cell? (x.oc i)
/-- .. the last one on its way: the group's block stands. -/
structure RL (w w₁ : World) : Prop where
  wi : x.WI w → x.WI w₁
  wg : w₁.heap[x.Wg]? = w.heap[x.Wg]?
/-- What an idle step of a worker's may list. -/
def EvK (o q : Option Nat) (e : Event) : Prop := ∃ (a : Addr) (wr : Bool), e = ⟨.cell a, wr, false⟩ ∧ ((wr = false ∧ x.RdB a.block) ∨ o = some a.block ∨ ∃ i, q = some i ∧ a = x.oc i)
/-- Its idle step where it holds no block: the world stands. -/
def D0 (d : Nat) (w w' : World) (es : Array Event) : Prop := w' = w ∧ ∀ e ∈ es, x.EvK none none e
/-- Its idle step while it does a job. -/
structure DR (b q : Nat) (d : Nat) (w w' : World) (es : Array Event) : Prop where
  block : ∀ k, k ≠ b → k ≠ x.C → w'.heap[k]? = w.heap[k]?
  size : w'.heap.size = w.heap.size
  cells : ∀ i, i ≠ q → w'.cell? (x.oc i) = w.cell? (x.oc i)
  pay : x.Pay w → x.Pay w'
  tape : w'.tape = w.tape
  os : w'.os = w.os
  output : w'.output = w.output
  evs : ∀ e ∈ es, x.EvK (some b) (some q) e
/-- Its idle step between its release and its atomic add: words alone. -/
def DW (d : Nat) (w w' : World) (es : Array Event) : Prop := w' = w ∧ ∀ e ∈ es, e.mute = true
/-- The last one's: the group's state turns; atomically, deaf. -/
structure DL (d : Nat) (w w' : World) (es : Array Event) : Prop where
  block : ∀ k, k ≠ x.Wg → w'.heap[k]? = w.heap[k]?
  wg : (∃ st, WgAt x.ty x.Wg w st 0) → ∃ st, WgAt x.ty x.Wg w' st 0
  size : w'.heap.size = w.heap.size
  tape : w'.tape = w.tape
  os : w'.os = w.os
  output : w'.output = w.output
  deaf : es ≠ #[] → 0 < d
  evs : ∀ e ∈ es, ∃ (a : Addr) (wr : Bool), e = ⟨.cell a, wr, true⟩ ∧ a.block = x.Wg

/-! ### what goroutine 0 suffers -/
/-- The count is at most V; nobody has registered. -/
def CL (V : Nat) (w : World) : Prop := ∃ v : Nat, v ≤ V ∧ WgAt x.ty x.Wg w ((v : Int) * KK) 0
structure RM0 (w w₁ : World) : Prop where
  fix : ∀ b, x.Fx b → w₁.heap[b]? = w.heap[b]?
  live : WgLive x.ty x.Wg w → WgLive x.ty x.Wg w₁
  wi : x.WI w → x.WI w₁
structure RM (w w₁ : World) : Prop extends x.RM0 w w₁ where
  down : ∀ V, x.CL V w → x.CL V w₁
/-- What an idle step of goroutine 0's may list: the group's cells atomically, or by the library's word; the fixed cells, read; 'disable', 'enable'. -/
def EvM (e : Event) : Prop :=
  (∃ (a : Addr) (wr : Bool), e = ⟨.cell a, wr, true⟩ ∧ a.block = x.Wg) ∨ (∃ a : Addr, a.block = x.Wg ∧ (e = Go.ConcR.mk (.read a) ∨ e = Go.ConcR.mk (.write a))) ∨
  (∃ a : Addr, e = ⟨.cell a, false, false⟩ ∧ x.Fx a.block ∧ ¬ x.Shun (.cell a)) ∨ e.mute = true
/-- .. while it sends, and in Wait: the world stands. -/
def DM (d : Nat) (w w' : World) (es : Array Event) : Prop := w' = w ∧ ∀ e ∈ es, x.EvM e
/-- .. while it starts the workers: the group's block turns. -/
structure DS (d : Nat) (w w' : World) (es : Array Event) : Prop where
  block : ∀ k, k ≠ x.Wg → w'.heap[k]? = w.heap[k]?
  wg : WgLive x.ty x.Wg w → WgLive x.ty x.Wg w'
  size : w'.heap.size = w.heap.size
  tape : w'.tape = w.tape
  os : w'.os = w.os
  output : w'.output = w.output
  evs : ∀ e ∈ es, x.EvM e
end Ph
end Go.Proofs.YtacimedkchjfnaaGreat
end

section
/-! The phase: the relies are closed; what each kind of step leaves standing. -/
namespace Go.Proofs.YtacimedkchjfnaaGreat
set_option linter.unusedSimpArgs false
set_option linter.unusedVariables false
open Go.Conc
open Go.ConcR (KK wgBlock WgAt stA smA rd wr deafBehind_cons deafBehind_one)
open Go.ConcN (WgLive)
open Go.RowKit
namespace Ph
variable {x : Ph} {o q : Option Nat} {w w₁ w₂ : World}

theorem wi_at (h : x.WI w) (d : Nat) : x.WI (w.at d) := ⟨h.fix, h.size, h.live, h.pay, h.tape, h.os, h.output⟩
theorem RK.refl (w : World) : x.RK o q w w := ⟨fun _ _ => rfl, id, id, fun _ _ => rfl, fun _ _ => rfl⟩
theorem RK.trans (h : x.RK o q w w₁) (h' : x.RK o q w₁ w₂) : x.RK o q w w₂ :=
  ⟨fun b hb => (h'.fix b hb).trans (h.fix b hb), h'.live ∘ h.live, h'.wi ∘ h.wi, fun b hb => (h'.own b hb).trans (h.own b hb), fun i hi => (h'.cell i hi).trans (h.cell i hi)⟩
theorem RK.at (w : World) (d : Nat) : x.RK o q w (w.at d) := ⟨fun _ _ => rfl, id, fun h => wi_at h d, fun _ _ => rfl, fun _ _ => rfl⟩
theorem RL.refl (w : World) : x.RL w w := ⟨id, rfl⟩
theorem RL.trans (h : x.RL w w₁) (h' : x.RL w₁ w₂) : x.RL w w₂ := ⟨h'.wi ∘ h.wi, h'.wg.trans h.wg⟩
theorem RL.at (w : World) (d : Nat) : x.RL w (w.at d) := ⟨fun h => wi_at h d, rfl⟩
theorem RM0.refl (w : World) : x.RM0 w w := ⟨fun _ _ => rfl, id, id⟩
theorem RM0.trans (h : x.RM0 w w₁) (h' : x.RM0 w₁ w₂) : x.RM0 w w₂ := ⟨fun b hb => (h'.fix b hb).trans (h.fix b hb), h'.live ∘ h.live, h'.wi ∘ h.wi⟩
theorem RM0.at (w : World) (d : Nat) : x.RM0 w (w.at d) := ⟨fun _ _ => rfl, id, fun h => wi_at h d⟩
theorem RM.refl (w : World) : x.RM w w := ⟨.refl w, fun _ => id⟩
theorem RM.trans (h : x.RM w w₁) (h' : x.RM w₁ w₂) : x.RM w w₂ := ⟨h.toRM0.trans h'.toRM0, fun V => h'.down V ∘ h.down V⟩
theorem RM.at (w : World) (d : Nat) : x.RM w (w.at d) := ⟨.at w d, fun _ h => h⟩

/-- A step that turns no block but those in S, and may lay new ones. -/
structure Upd (S : Nat → Prop) (w w' : World) : Prop where
  block : ∀ k, k < w.heap.size → ¬ S k → w'.heap[k]? = w.heap[k]?
  size : w.heap.size ≤ w'.heap.size
  tape : w'.tape = w.tape
  os : w'.os = w.os
  output : w'.output = w.output
theorem Upd.at {S : Nat → Prop} (w : World) (d : Nat) : Upd S w (w.at d) := ⟨fun _ _ _ => rfl, Nat.le_refl _, rfl, rfl, rfl⟩
theorem Upd.refl {S : Nat → Prop} (w : World) : Upd S w w := ⟨fun _ _ _ => rfl, Nat.le_refl _, rfl, rfl, rfl⟩
theorem Upd.mono {S S' : Nat → Prop} (h : Upd S w w₁) (hS : ∀ k, S k → S' k) : Upd S' w w₁ := ⟨fun k hk hn => h.block k hk fun y => hn (hS k y), h.size, h.tape, h.os, h.output⟩
theorem upd_alloc (w : World) (ob : Obj) {S : Nat → Prop} : Upd S w (w.alloc ob) :=
  ⟨fun k hk _ => Below.heap_alloc w ob k hk, by rw [World.size_alloc]; exact Nat.le_succ _, rfl, rfl, rfl⟩
theorem upd_setCell (w : World) (a : Addr) (v : Value) : Upd (fun k => k = a.block) w (w.setCell a v) :=
  ⟨fun k _ hn => by simp [World.setCell, Array.getElem?_modify, Ne.symm hn], by simp [World.setCell], rfl, rfl, rfl⟩
theorem upd_setChan (w : World) (c cap : Nat) (buf : Array Value) (closed : Bool) (s r : Nat) (tm : Bool) : Upd (fun k => k = c) w (w.setChan c cap buf closed s r tm) :=
  ⟨fun k _ hn => by simp [World.setChan, Array.getElem?_setIfInBounds_ne (Ne.symm hn)], by simp [World.setChan], rfl, rfl, rfl⟩
theorem DR.upd {b i d : Nat} {es : Array Event} (h : x.DR b i d w w₁ es) : Upd (fun k => k = b ∨ k = x.C) w w₁ :=
  ⟨fun k _ hn => h.block k (fun e => hn (.inl e)) (fun e => hn (.inr e)), by rw [h.size]; exact Nat.le_refl _, h.tape, h.os, h.output⟩
theorem DL.upd {d : Nat} {es : Array Event} (h : x.DL d w w₁ es) : Upd (fun k => k = x.Wg) w w₁ :=
  ⟨fun k _ hn => h.block k hn, by rw [h.size]; exact Nat.le_refl _, h.tape, h.os, h.output⟩
theorem DS.upd {d : Nat} {es : Array Event} (h : x.DS d w w₁ es) : Upd (fun k => k = x.Wg) w w₁ :=
  ⟨fun k _ hn => h.block k hn, by rw [h.size]; exact Nat.le_refl _, h.tape, h.os, h.output⟩

section
variable {S : Nat → Prop} (hu : Upd S w w₁)
include hu
theorem Upd.fix (hwi : x.L0 ≤ w.heap.size) (hS : ∀ b, S b → ¬ x.Fx b) : ∀ b, x.Fx b → w₁.heap[b]? = w.heap[b]? :=
  fun b hb => hu.block b (Nat.lt_of_lt_of_le hb.1 hwi) fun y => hS b y hb
theorem Upd.wi (hwi : x.WI w) (hS : ∀ b, S b → ¬ x.Fx b) (hl : WgLive x.ty x.Wg w₁) (hp : x.Pay w₁) : x.WI w₁ :=
  ⟨fun b hb => (hu.fix hwi.size hS b hb).trans (hwi.fix b hb), Nat.le_trans hwi.size hu.size, hl, hp, hu.tape.trans hwi.tape, hu.os.trans hwi.os, hu.output.trans hwi.output⟩
theorem Upd.rk (hwi : x.WI w) (hS : ∀ b, S b → ¬ x.Fx b) (hl : WgLive x.ty x.Wg w₁) (hp : x.Pay w₁) (ho : ∀ b, o = some b → b < w.heap.size ∧ ¬ S b) (hc : ∀ i, q = some i → w₁.cell? (x.oc i) = w.cell? (x.oc i)) : x.RK o q w w₁ :=
  ⟨hu.fix hwi.size hS, fun _ => hl, fun h => hu.wi h hS hl hp, fun b hb => hu.block b (ho b hb).1 (ho b hb).2, hc⟩
theorem Upd.rm0 (hwi : x.WI w) (hS : ∀ b, S b → ¬ x.Fx b) (hl : WgLive x.ty x.Wg w₁) (hp : x.Pay w₁) : x.RM0 w w₁ := ⟨hu.fix hwi.size hS, fun _ => hl, fun h => hu.wi h hS hl hp⟩
end
theorem wgAt_of_block {ty : TypeId} {Wg : Nat} {st sm : Int} (h : WgAt ty Wg w st sm) (e : w₁.heap[Wg]? = w.heap[Wg]?) : WgAt ty Wg w₁ st sm := by unfold WgAt at *; rw [e]; exact h
theorem live_of_block {ty : TypeId} {Wg : Nat} (h : WgLive ty Wg w) (e : w₁.heap[Wg]? = w.heap[Wg]?) : WgLive ty Wg w₁ := by
  obtain ⟨st, sm, h⟩ := h
  exact ⟨st, sm, wgAt_of_block h e⟩
theorem pay_of_block (h : x.Pay w) (e : w₁.heap[x.C]? = w.heap[x.C]?) : x.Pay w₁ := by
  obtain ⟨cs, h, hn⟩ := h
  exact ⟨cs, e.trans h, hn⟩
theorem cell_of_block (e : w₁.heap[x.C]? = w.heap[x.C]?) (i : Nat) : w₁.cell? (x.oc i) = w.cell? (x.oc i) := by simp [World.cell?, oc, e]
theorem rm_of_wg (h : x.RM0 w w₁) (e : w₁.heap[x.Wg]? = w.heap[x.Wg]?) : x.RM w w₁ := ⟨h, fun V ⟨v, hv, hw⟩ => ⟨v, hv, wgAt_of_block hw e⟩⟩
theorem wg_unique {ty : TypeId} {Wg : Nat} {st sm st' sm' : Int} (h : WgAt ty Wg w st sm) (h' : WgAt ty Wg w st' sm') : st = st' ∧ sm = sm' := by
  unfold WgAt at *
  rw [h] at h'
  simp only [Option.some.injEq, wgBlock, Obj.cells.injEq, Array.mk.injEq, List.cons.injEq, Value.int.injEq, true_and, and_true] at h'
  exact h'
end Ph
end Go.Proofs.YtacimedkchjfnaaGreat
end

section
/-! The phase: what is held of the trace. -/
namespace Go.Proofs.YtacimedkchjfnaaGreat
set_option linter.unusedSimpArgs false
set_option linter.unusedVariables false
open Go.Conc
open Go.ConcR (KK wgBlock WgAt stA smA rd wr deafBehind_cons deafBehind_one)
open Go.ConcN (WgLive PermW fork_knows RelBy upd upd_same upd_ne)

theorem noRace_none {said : Bool} {t u : Trace} (h : ¬ Race said t) (hu : ∀ op ∈ u, op.act.touch? = none) : ¬ Race said (t ++ u) := by
  rintro ⟨i, j, hij, ⟨a, b, ha, hb, hc⟩, n1, n2⟩
  obtain ⟨x, hx, hxa⟩ := touch_of ha
  obtain ⟨y, hy, hyb⟩ := touch_of hb
  rcases getElem?_append_cases hx with ⟨_, hx'⟩ | ⟨_, hxu⟩
  · rcases getElem?_append_cases hy with ⟨_, hy'⟩ | ⟨_, hyu⟩
    · exact h ⟨i, j, hij, ⟨a, b, (touchAt_of hx').trans hxa, (touchAt_of hy').trans hyb, hc⟩, fun e => n1 (hb_app u e), fun e => n2 (hb_app u e)⟩
    · rw [hu y hyu] at hyb; cases hyb
  · rw [hu x hxu] at hxa; cases hxa

theorem lt_g {t : Trace} {i g : Nat} (h : t.g? i = some g) : i < t.size := by
  obtain ⟨z, hz, _⟩ := Option.map_eq_some_iff.1 h
  exact lt_size_of_getElem? hz
namespace Ph
variable (x : Ph)
/-- Worker i's own places: the blocks that it has laid, the results of the jobs that it has got. -/
def Ow (ob oj : Nat → Option Nat) (i : Nat) (l : Loc) : Prop := ∃ a : Addr, l = .cell a ∧ ((x.L0 ≤ a.block ∧ ob a.block = some i) ∨ ∃ q, a = x.oc q ∧ oj q = some i)
structure TI (ob oj : Nat → Option Nat) (j : Nat) (t : Trace) : Prop where
  clean : ∀ said, ¬ Race said t
  quiet : Quiet x.Sh t
  own : ∀ i, i < j → ∀ l, x.Ow ob oj i l → Perm t (x.c + i) l
  rd : ∀ i, i < j → ∀ l, x.RdL l → PermW t (x.c + i) l
  known : ∀ k a, touchAt t k = some a → a.loc.isMemory = true → Knows t 0 k ∨ (x.Shun a.loc ∧ a.kind = .atomic) ∨ (x.T0 ≤ k ∧ ∃ i, i < j ∧ t.g? k = some (x.c + i))
  wk : ∀ k a i, x.T0 ≤ k → i < j → t.g? k = some (x.c + i) → touchAt t k = some a → (x.Sh a.loc ∧ a.kind = .atomic) ∨ (a.kind = .plain ∧ (x.Ow ob oj i a.loc ∨ (x.RdL a.loc ∧ a.write = false)))
  over : ∀ k g, t.g? k = some g → g ≠ 0 → t.counts k → (x.T0 ≤ k ∧ ∃ i, i < j ∧ g = x.c + i) ∨ ∃ m, t.g? m = some 0 ∧ HappensBefore t k m
  fresh : ∀ k a ad, touchAt t k = some a → a.loc = .cell ad → (x.L0 ≤ ad.block → ob ad.block ≠ none) ∧ (ad.block = x.C → ∃ q, ad = x.oc q ∧ oj q ≠ none)
  norel : NoRelease (stA x.Wg) t
  size : x.T0 ≤ t.size
  gs : ∀ k op, x.T0 ≤ k → t[k]? = some op → op.g < x.c + j

/-- What goroutine 0 may list in the phase. -/
def Ok0 (op : MemOp) : Prop := op.g = 0 ∧ op.act ≠ .mark (.release (stA x.Wg)) ∧
  ∀ b, op.act.touch? = some b → (x.Sh b.loc ∧ b.kind ≠ .plain) ∨ (b.write = false ∧ ((∃ a : Addr, b.loc = .cell a ∧ x.Fx a.block ∧ ¬ x.Shun b.loc) ∨ ∃ r, b.loc = .obj r))
/-- What worker i may. -/
def OkW (ob oj : Nat → Option Nat) (i : Nat) (op : MemOp) : Prop := op.g = x.c + i ∧ op.act ≠ .mark (.release (stA x.Wg)) ∧
  ∀ b, op.act.touch? = some b → (x.Sh b.loc ∧ b.kind = .atomic) ∨ (b.kind = .plain ∧ (x.Ow ob oj i b.loc ∨ (x.RdL b.loc ∧ b.write = false)))
end Ph

section
variable {x : Ph} {ob oj : Nat → Option Nat} {j : Nat} {t u : Trace}
namespace Ph
theorem ow_inj {i i' : Nat} {l : Loc} (G : x.Geo) (h : x.Ow ob oj i l) (h' : x.Ow ob oj i' l) : i = i' := by
  obtain ⟨a, rfl, h⟩ := h
  obtain ⟨a', e, h'⟩ := h'
  obtain rfl : a = a' := Loc.cell.inj e
  have hc := G.c
  rcases h with ⟨h1, h2⟩ | ⟨q, rfl, h2⟩ <;> rcases h' with ⟨h3, h4⟩ | ⟨q', h3, h4⟩
  · rw [h2] at h4; exact Option.some.inj h4
  · subst h3; simp only [oc] at h1; omega
  · simp only [oc] at h3; omega
  · simp only [oc, Addr.mk.injEq, true_and, and_true] at h3
    subst h3
    rw [h2] at h4; exact Option.some.inj h4
theorem ow_rd {i : Nat} {l : Loc} (G : x.Geo) (h : x.Ow ob oj i l) : ¬ x.RdL l := by
  obtain ⟨a, rfl, h⟩ := h
  rintro ⟨a', e, h'⟩
  obtain rfl : a = a' := Loc.cell.inj e
  rcases h with ⟨h1, _⟩ | ⟨q, rfl, _⟩
  · have := h'.2.1; omega
  · exact h'.2.2.2.1 rfl
theorem ow_fx {i : Nat} {a : Addr} (h : x.Ow ob oj i (.cell a)) : ¬ x.Fx a.block := by
  obtain ⟨a', e, h⟩ := h
  obtain rfl : a = a' := Loc.cell.inj e
  intro hf
  rcases h with ⟨h1, _⟩ | ⟨q, rfl, _⟩
  · have := hf.1; omega
  · exact hf.2.2.1 rfl
theorem ow_sh {i : Nat} {l : Loc} (G : x.Geo) (h : x.Ow ob oj i l) : ¬ x.Sh l := by
  obtain ⟨a, rfl, h⟩ := h
  rintro ⟨a', e, h'⟩
  obtain rfl : a = a' := Loc.cell.inj e
  have := G.wg
  rcases h with ⟨h1, _⟩ | ⟨q, rfl, _⟩
  · omega
  · exact G.wgc h'.symm
theorem ow_shun {i : Nat} {l : Loc} (G : x.Geo) (h : x.Ow ob oj i l) : ¬ x.Shun l := by
  obtain ⟨a, rfl, h⟩ := h
  intro hs
  obtain ⟨a', e, h'⟩ := G.shun _ hs
  obtain rfl : a = a' := Loc.cell.inj e
  have := G.lo; have := G.c
  rcases h with ⟨h1, _⟩ | ⟨q, rfl, _⟩
  · omega
  · simp only [oc] at h'; omega
theorem rd_shun {l : Loc} (G : x.Geo) (h : x.RdL l) : ¬ x.Shun l := by
  obtain ⟨a, rfl, h⟩ := h
  intro hs
  obtain ⟨a', e, h'⟩ := G.shun _ hs
  obtain rfl : a = a' := Loc.cell.inj e
  have := h.1; omega
theorem rd_sh {l : Loc} (h : x.RdL l) : ¬ x.Sh l := by
  obtain ⟨a, rfl, h⟩ := h
  rintro ⟨a', e, h'⟩
  obtain rfl : a = a' := Loc.cell.inj e
  exact h.2.2.1 h'
end Ph

theorem touch_app {k : Nat} {a : Touch} (h : touchAt (t ++ u) k = some a) : (k < t.size ∧ touchAt t k = some a) ∨ (t.size ≤ k ∧ ∃ op ∈ u, (t ++ u)[k]? = some op ∧ op.act.touch? = some a) := by
  obtain ⟨op, ho, ha⟩ := touch_of h
  rcases getElem?_append_cases ho with ⟨hk, ho'⟩ | ⟨hk, hou⟩
  · exact .inl ⟨hk, (touchAt_of ho').trans ha⟩
  · exact .inr ⟨hk, op, hou, ho, ha⟩

namespace Ph
/-- Operations that touch nothing, whoever's. -/
theorem TI.mute (h : x.TI ob oj j t) (hu : ∀ op ∈ u, op.act.touch? = none ∧ op.act ≠ .mark (.release (stA x.Wg)) ∧ op.g < x.c + j) : x.TI ob oj j (t ++ u) := by
  have no : ∀ {k : Nat} {a : Touch}, touchAt (t ++ u) k = some a → k < t.size ∧ touchAt t k = some a := fun {k a} e => by
    rcases touch_app e with h1 | ⟨_, op, ho, _, hn⟩
    · exact h1
    · rw [(hu op ho).1] at hn; cases hn
  refine ⟨fun said => noRace_none (h.clean said) fun op ho => (hu op ho).1, h.quiet.app fun op ho y hy _ => (by rw [(hu op ho).1] at hy; cases hy), fun i hi l hl => (h.own i hi l hl).app fun op ho b hb _ => (by rw [(hu op ho).1] at hb; cases hb),
    fun i hi l hl => (h.rd i hi l hl).app fun op ho b hb _ _ => (by rw [(hu op ho).1] at hb; cases hb), fun k a ha hm => ?_, fun k a i hk hi hg ha => ?_, fun k g hg hn hc => ?_, fun k a ad ha he => h.fresh k a ad (no ha).2 he, h.norel.app fun op ho => (hu op ho).2.1, by simp; have := h.size; omega, fun k op hk hop => (getElem?_append_cases hop).elim (fun e => h.gs k op hk e.2) fun e => (hu op e.2).2.2⟩
  · obtain ⟨h1, h2⟩ := no ha
    rcases h.known k a h2 hm with h3 | h3 | ⟨h3, i, hi, h4⟩
    · exact .inl (h3.app u)
    · exact .inr (.inl h3)
    · exact .inr (.inr ⟨h3, i, hi, by rw [g?_old h1]; exact h4⟩)
  · obtain ⟨h1, h2⟩ := no ha
    exact h.wk k a i hk hi (by rw [← g?_old (u := u) h1]; exact hg) h2
  · obtain ⟨y, hy, _⟩ := id hc
    obtain ⟨h1, h2⟩ := no hy
    rcases h.over k g (by rw [← g?_old (u := u) h1]; exact hg) hn ((counts_old h1).1 hc) with h3 | ⟨m, hm, hb⟩
    · exact .inl h3
    · exact .inr ⟨m, by rw [g?_old (lt_g hm)]; exact hm, hb_app u hb⟩

theorem TI.app0 (G : x.Geo) (h : x.TI ob oj j t) (hu : ∀ op ∈ u, x.Ok0 op) : x.TI ob oj j (t ++ u) := by
  have fx : ∀ op ∈ u, ∀ b, op.act.touch? = some b → x.Sh b.loc ∨ (b.write = false ∧ ((∃ a : Addr, b.loc = .cell a ∧ x.Fx a.block ∧ ¬ x.Shun b.loc) ∨ ∃ r, b.loc = .obj r)) := fun op ho b hb => ((hu op ho).2.2 b hb).imp (·.1) id
  refine ⟨fun said => noRace_append (h.clean said) (fun op ho => (hu op ho).1) fun k a ha op ho b hb hc => ?_, h.quiet.app fun op ho y hy hs => ?_, fun i hi l hl => (h.own i hi l hl).app fun op ho b hb e => ?_,
    fun i hi l hl => (h.rd i hi l hl).app fun op ho b hb e hw => ?_, fun k a ha hm => ?_, fun k a i hk hi hg ha => ?_, fun k g hg hn hc => ?_, fun k a ad ha he => ?_, h.norel.app fun op ho => (hu op ho).2.1, by simp; have := h.size; omega, fun k op hk hop => (getElem?_append_cases hop).elim (fun e => h.gs k op hk e.2) fun e => (by have := (hu op e.2).1; have := G.c1; omega)⟩
  · rcases h.known k a ha hc.2.1 with h3 | ⟨h3, h4⟩ | ⟨h3, i, hi, h4⟩
    · exact h3
    · -- a shunned place: atomic against one that is not plain
      rcases (hu op ho).2.2 b hb with ⟨hs, hk⟩ | ⟨_, ⟨ad, hl, _, hn⟩ | ⟨r, hl⟩⟩
      · obtain ⟨_, _, _, hcase⟩ := hc
        rw [h4] at hcase
        rcases hcase with y | y | ⟨_, y, _⟩
        · cases y
        · exact absurd y hk
        · cases y
      · exact absurd (hc.1 ▸ h3) hn
      · obtain ⟨ad, e, _⟩ := G.shun _ h3
        rw [hc.1, hl] at e; cases e
    · rcases h.wk k a i h3 hi h4 ha with ⟨hs, hk⟩ | ⟨hk, ho' | ⟨hr, hw⟩⟩
      · rcases (hu op ho).2.2 b hb with ⟨hs', hk'⟩ | ⟨_, ⟨ad, hl, hf, hn⟩ | ⟨r, hl⟩⟩
        · obtain ⟨_, _, _, hcase⟩ := hc
          rw [hk] at hcase
          rcases hcase with y | y | ⟨_, y, _⟩
          · cases y
          · exact absurd y hk'
          · cases y
        · obtain ⟨ad', e', hb'⟩ := hs
          rw [hc.1, hl] at e'
          obtain rfl := Loc.cell.inj e'
          exact absurd hb' hf.2.1
        · obtain ⟨ad', e', hb'⟩ := hs
          rw [hc.1, hl] at e'; cases e'
      · rcases fx op ho b hb with hs' | ⟨_, ⟨ad, hl, hf, _⟩ | ⟨r, hl⟩⟩
        · exact absurd (hc.1 ▸ hs') (ow_sh G ho')
        · rw [hc.1, hl] at ho'; exact absurd hf (ow_fx ho')
        · rw [hc.1, hl] at ho'; obtain ⟨ad, e, _⟩ := ho'; cases e
      · rcases fx op ho b hb with hs' | ⟨hbw, _⟩
        · exact absurd (hc.1 ▸ hs') (rd_sh hr)
        · exact absurd hc.2.2.1 (by simp [hw, hbw])
  · rcases (hu op ho).2.2 y hy with ⟨_, hk⟩ | ⟨_, ⟨ad, hl, hf, _⟩ | ⟨r, hl⟩⟩
    · exact ⟨hk, fun _ => (hu op ho).1⟩
    · obtain ⟨ad', e', hb'⟩ := hs
      rw [hl] at e'
      obtain rfl := Loc.cell.inj e'
      exact absurd hb' hf.2.1
    · obtain ⟨ad', e', hb'⟩ := hs
      rw [hl] at e'; cases e'
  · rcases fx op ho b hb with hs' | ⟨_, ⟨ad, hl', hf, _⟩ | ⟨r, hl'⟩⟩
    · exact absurd (e ▸ hs') (ow_sh G hl)
    · rw [← e, hl'] at hl; exact absurd hf (ow_fx hl)
    · rw [← e, hl'] at hl; obtain ⟨ad, e, _⟩ := hl; cases e
  · rcases fx op ho b hb with hs' | ⟨hbw, _⟩
    · exact absurd (e ▸ hs') (rd_sh hl)
    · rw [hbw] at hw; cases hw
  · rcases touch_app ha with ⟨h1, h2⟩ | ⟨h1, op, ho, hop, _⟩
    · rcases h.known k a h2 hm with h3 | h3 | ⟨h3, i, hi, h4⟩
      · exact .inl (h3.app u)
      · exact .inr (.inl h3)
      · exact .inr (.inr ⟨h3, i, hi, by rw [g?_old h1]; exact h4⟩)
    · have := knows_own hop
      rw [(hu op ho).1] at this
      exact .inl this
  · rcases touch_app ha with ⟨h1, h2⟩ | ⟨h1, op, ho, hop, _⟩
    · exact h.wk k a i hk hi (by rw [← g?_old (u := u) h1]; exact hg) h2
    · have := G.c1
      simp [Trace.g?, hop, (hu op ho).1] at hg
      omega
  · obtain ⟨y, hy, _⟩ := id hc
    rcases touch_app hy with ⟨h1, h2⟩ | ⟨h1, op, ho, hop, _⟩
    · rcases h.over k g (by rw [← g?_old (u := u) h1]; exact hg) hn ((counts_old h1).1 hc) with h3 | ⟨m, hm, hb⟩
      · exact .inl h3
      · exact .inr ⟨m, by rw [g?_old (lt_g hm)]; exact hm, hb_app u hb⟩
    · simp [Trace.g?, hop, (hu op ho).1] at hg
      exact absurd hg.symm hn
  · rcases touch_app ha with ⟨h1, h2⟩ | ⟨h1, op, ho, hop, hoa⟩
    · exact h.fresh k a ad h2 he
    · have hw := G.wg
      rcases fx op ho a hoa with ⟨ad', e', hb'⟩ | ⟨_, ⟨ad', hl, hf, _⟩ | ⟨r, hl⟩⟩
      · rw [he] at e'; obtain rfl := Loc.cell.inj e'
        exact ⟨fun h => by omega, fun e => absurd (hb'.symm.trans e) G.wgc⟩
      · rw [he] at hl; obtain rfl := Loc.cell.inj hl
        exact ⟨fun h => by have := hf.1; omega, fun e => absurd e hf.2.2.1⟩
      · rw [he] at hl; cases hl

theorem TI.appW (G : x.Geo) (h : x.TI ob oj j t) {i : Nat} (hi : i < j) (hu : ∀ op ∈ u, x.OkW ob oj i op) : x.TI ob oj j (t ++ u) := by
  refine ⟨fun said => noRace_append (h.clean said) (fun op ho => (hu op ho).1) fun k a ha op ho b hb hc => ?_, h.quiet.app fun op ho y hy hs => ?_, fun i' hi' l hl => (h.own i' hi' l hl).app fun op ho b hb e => ?_,
    fun i' hi' l hl => (h.rd i' hi' l hl).app fun op ho b hb e hw => ?_, fun k a ha hm => ?_, fun k a i' hk hi' hg ha => ?_, fun k g hg hn hc => ?_, fun k a ad ha he => ?_, h.norel.app fun op ho => (hu op ho).2.1, by simp; have := h.size; omega, fun k op hk hop => (getElem?_append_cases hop).elim (fun e => h.gs k op hk e.2) fun e => (by have := (hu op e.2).1; have := G.c1; omega)⟩
  · rcases (hu op ho).2.2 b hb with ⟨hs, hk⟩ | ⟨hk, ho' | ⟨hr, hw⟩⟩
    · exact h.quiet.known hs (by rw [hk]; simp) (fun e => by rw [hk] at e; cases e) k a ha hc
    · exact h.own i hi _ ho' k a ha hc.1
    · exact h.rd i hi _ hr k a ha hc.1 (hc.2.2.1.resolve_right (by simp [hw]))
  · rcases (hu op ho).2.2 y hy with ⟨_, hk⟩ | ⟨hk, ho' | ⟨hr, hw⟩⟩
    · exact ⟨by rw [hk]; simp, fun e => by rw [hk] at e; cases e⟩
    · exact absurd hs (ow_sh G ho')
    · exact absurd hs (rd_sh hr)
  · rcases (hu op ho).2.2 b hb with ⟨hs, hk⟩ | ⟨hk, ho' | ⟨hr, hw⟩⟩
    · exact absurd (e ▸ hs) (ow_sh G hl)
    · obtain rfl := ow_inj G (e ▸ ho') hl; exact (hu op ho).1
    · exact absurd (e ▸ hr) (ow_rd G hl)
  · rcases (hu op ho).2.2 b hb with ⟨hs, hk⟩ | ⟨hk, ho' | ⟨hr, hbw⟩⟩
    · exact absurd (e ▸ hs) (rd_sh hl)
    · exact absurd hl (ow_rd G (e ▸ ho'))
    · rw [hbw] at hw; cases hw
  · rcases touch_app ha with ⟨h1, h2⟩ | ⟨h1, op, ho, hop, _⟩
    · rcases h.known k a h2 hm with h3 | h3 | ⟨h3, i', hi', h4⟩
      · exact .inl (h3.app u)
      · exact .inr (.inl h3)
      · exact .inr (.inr ⟨h3, i', hi', by rw [g?_old h1]; exact h4⟩)
    · exact .inr (.inr ⟨Nat.le_trans h.size h1, i, hi, by simp [Trace.g?, hop, (hu op ho).1]⟩)
  · rcases touch_app ha with ⟨h1, h2⟩ | ⟨h1, op, ho, hop, hoa⟩
    · exact h.wk k a i' hk hi' (by rw [← g?_old (u := u) h1]; exact hg) h2
    · simp [Trace.g?, hop, (hu op ho).1] at hg
      subst hg
      exact (hu op ho).2.2 a hoa
  · obtain ⟨y, hy, _⟩ := id hc
    rcases touch_app hy with ⟨h1, h2⟩ | ⟨h1, op, ho, hop, _⟩
    · rcases h.over k g (by rw [← g?_old (u := u) h1]; exact hg) hn ((counts_old h1).1 hc) with h3 | ⟨m, hm, hb⟩
      · exact .inl h3
      · exact .inr ⟨m, by rw [g?_old (lt_g hm)]; exact hm, hb_app u hb⟩
    · simp [Trace.g?, hop, (hu op ho).1] at hg
      exact .inl ⟨Nat.le_trans h.size h1, i, hi, hg.symm⟩
  · rcases touch_app ha with ⟨h1, h2⟩ | ⟨h1, op, ho, hop, hoa⟩
    · exact h.fresh k a ad h2 he
    · have hw := G.wg; have hc := G.c
      rcases (hu op ho).2.2 a hoa with ⟨⟨ad', e', hb'⟩, hk⟩ | ⟨hk, ⟨ad', e', hb'⟩ | ⟨⟨ad', e', hb'⟩, _⟩⟩
      · rw [he] at e'; obtain rfl := Loc.cell.inj e'
        exact ⟨fun h => by omega, fun e => absurd (hb'.symm.trans e) G.wgc⟩
      · rw [he] at e'; obtain rfl := Loc.cell.inj e'
        rcases hb' with ⟨h5, h6⟩ | ⟨q, rfl, h6⟩
        · exact ⟨fun _ => by rw [h6]; simp, fun e => by omega⟩
        · exact ⟨fun h => by simp only [oc] at h; omega, fun _ => ⟨q, rfl, by rw [h6]; simp⟩⟩
      · rw [he] at e'; obtain rfl := Loc.cell.inj e'
        exact ⟨fun h => by have := hb'.2.1; omega, fun e => absurd e hb'.2.2.2.1⟩

theorem fresh_untouched (h : x.TI ob oj j t) {l : Loc} {ad : Addr} (e : l = .cell ad) (hf : (x.L0 ≤ ad.block ∧ ob ad.block = none) ∨ ∃ q, ad = x.oc q ∧ oj q = none) {k : Nat} {a : Touch} (ha : touchAt t k = some a) : a.loc ≠ l := by
  intro el
  obtain ⟨h1, h2⟩ := h.fresh k a ad ha (el.trans e)
  rcases hf with ⟨hf1, hf2⟩ | ⟨q, rfl, hq⟩
  · exact h1 hf1 hf2
  · obtain ⟨q', e', hq'⟩ := h2 rfl
    simp only [oc, Addr.mk.injEq, true_and, and_true] at e'
    subst e'
    exact hq' hq
/-- A new place is given to a worker. -/
theorem TI.grow (h : x.TI ob oj j t) {ob' oj' : Nat → Option Nat} (hb : ∀ b, ob' b = ob b ∨ ob b = none) (hj : ∀ q, oj' q = oj q ∨ oj q = none) : x.TI ob' oj' j t := by
  have up : ∀ {i l}, x.Ow ob oj i l → x.Ow ob' oj' i l := by
    rintro i l ⟨a, rfl, h⟩
    refine ⟨a, rfl, h.imp (fun ⟨h1, h2⟩ => ⟨h1, ?_⟩) fun ⟨q, h1, h2⟩ => ⟨q, h1, ?_⟩⟩
    · rcases hb a.block with e | e
      · rw [e]; exact h2
      · rw [e] at h2; cases h2
    · rcases hj q with e | e
      · rw [e]; exact h2
      · rw [e] at h2; cases h2
  refine ⟨h.clean, h.quiet, fun i hi l hl => ?_, h.rd, h.known, fun k a i hk hi hg ha => (h.wk k a i hk hi hg ha).imp id fun ⟨h1, h2⟩ => ⟨h1, h2.imp up id⟩, h.over, fun k a ad ha he => ?_, h.norel, h.size, h.gs⟩
  · by_cases ho : x.Ow ob oj i l
    · exact h.own i hi l ho
    · intro k a ha hal
      obtain ⟨ad, rfl, hl⟩ := hl
      refine absurd hal (fresh_untouched h rfl ?_ ha)
      rcases hl with ⟨h1, h2⟩ | ⟨q, rfl, h2⟩
      · rcases hb ad.block with e | e
        · exact absurd ⟨ad, rfl, .inl ⟨h1, e ▸ h2⟩⟩ ho
        · exact .inl ⟨h1, e⟩
      · rcases hj q with e | e
        · exact absurd ⟨_, rfl, .inr ⟨q, rfl, e ▸ h2⟩⟩ ho
        · exact .inr ⟨q, rfl, e⟩
  · obtain ⟨h1, h2⟩ := h.fresh k a ad ha he
    refine ⟨fun hL => ?_, fun e => ?_⟩
    · rcases hb ad.block with e | e
      · rw [e]; exact h1 hL
      · exact absurd e (h1 hL)
    · obtain ⟨q, h3, h4⟩ := h2 e
      refine ⟨q, h3, ?_⟩
      rcases hj q with e | e
      · rw [e]; exact h4
      · exact absurd e h4
/-- What a worker may read goroutine 0 knows all writes of. -/
theorem TI.rd0 (G : x.Geo) (h : x.TI ob oj j t) {k : Nat} {a : Touch} (ha : touchAt t k = some a) (hr : x.RdL a.loc) (hw : a.write = true) : Knows t 0 k := by
  have hm : a.loc.isMemory = true := by
    obtain ⟨ad, e, _⟩ := hr
    rw [e]; rfl
  rcases h.known k a ha hm with h3 | ⟨h3, _⟩ | ⟨h3, i, hi, h4⟩
  · exact h3
  · exact absurd h3 (rd_shun G hr)
  · rcases h.wk k a i h3 hi h4 ha with ⟨hs, _⟩ | ⟨_, ho | ⟨_, hn⟩⟩
    · exact absurd hs (rd_sh hr)
    · exact absurd hr (ow_rd G ho)
    · rw [hn] at hw; cases hw
/-- A go STATEMENT. -/
theorem TI.fork (G : x.Geo) (h : x.TI ob oj j t) {y z : MemOp} (hy : y.g = 0 ∧ y.act = .go (x.c + j)) (hz : z.g = x.c + j ∧ z.act = .start) (h0 : Deaf t 0 = 0) (hk : Deaf t (x.c + j) = 0)
    (hno : ∀ i, ob i ≠ some j ∧ oj i ≠ some j) : x.TI ob oj (j + 1) (t ++ #[y, z]) := by
  have hnt : ∀ op ∈ #[y, z], op.act.touch? = none ∧ op.act ≠ .mark (.release (stA x.Wg)) := fun op ho => by
    simp only [List.mem_toArray, List.mem_cons, List.not_mem_nil, or_false] at ho
    rcases ho with e | e
    · rw [e, hy.2]; exact ⟨rfl, by simp⟩
    · rw [e, hz.2]; exact ⟨rfl, by simp⟩
  have no : ∀ {k : Nat} {a : Touch}, touchAt (t ++ #[y, z]) k = some a → k < t.size ∧ touchAt t k = some a := fun {k a} e => by
    rcases touch_app e with h1 | ⟨_, op, ho, _, hn⟩
    · exact h1
    · rw [(hnt op ho).1] at hn; cases hn
  refine ⟨fun said => noRace_none (h.clean said) fun op ho => (hnt op ho).1, h.quiet.app fun op ho y hy _ => (by rw [(hnt op ho).1] at hy; cases hy), fun i hi l hl => ?_, fun i hi l hl => ?_, fun k a ha hm => ?_, fun k a i hk' hi hg ha => ?_,
    fun k g hg hn hc => ?_, fun k a ad ha he => h.fresh k a ad (no ha).2 he, h.norel.app fun op ho => (hnt op ho).2, by simp; have := h.size; omega, fun k op hk' hop => ?_⟩
  · rcases Nat.lt_or_ge i j with hlt | hge
    · exact (h.own i hlt l hl).app fun op ho b hb _ => (by rw [(hnt op ho).1] at hb; cases hb)
    · obtain rfl : i = j := by omega
      obtain ⟨a, rfl, h1 | ⟨q, _, h1⟩⟩ := hl
      · exact absurd h1.2 (hno _).1
      · exact absurd h1 (hno _).2
  · rcases Nat.lt_or_ge i j with hlt | hge
    · exact (h.rd i hlt l hl).app fun op ho b hb _ _ => (by rw [(hnt op ho).1] at hb; cases hb)
    · obtain rfl : i = j := by omega
      intro k a ha hal haw
      obtain ⟨h1, h2⟩ := no ha
      exact fork_knows hy hz h0 hk (h.rd0 G h2 (hal ▸ hl) haw)
  · obtain ⟨h1, h2⟩ := no ha
    rcases h.known k a h2 hm with h3 | h3 | ⟨h3, i, hi, h4⟩
    · exact .inl (h3.app _)
    · exact .inr (.inl h3)
    · exact .inr (.inr ⟨h3, i, by omega, by rw [g?_old h1]; exact h4⟩)
  · obtain ⟨h1, h2⟩ := no ha
    rw [g?_old h1] at hg
    rcases Nat.lt_or_ge i j with hlt | hge
    · exact h.wk k a i hk' hlt hg h2
    · obtain rfl : i = j := by omega
      obtain ⟨op, hop, hog⟩ := Option.map_eq_some_iff.1 hg
      have := h.gs k op hk' hop
      omega
  · obtain ⟨y', hy', _⟩ := id hc
    obtain ⟨h1, h2⟩ := no hy'
    rcases h.over k g (by rw [← g?_old (u := #[y, z]) h1]; exact hg) hn ((counts_old h1).1 hc) with ⟨h3, i, hi, h4⟩ | ⟨m, hm, hb⟩
    · exact .inl ⟨h3, i, by omega, h4⟩
    · exact .inr ⟨m, by rw [g?_old (lt_g hm)]; exact hm, hb_app _ hb⟩
  · rcases getElem?_append_cases hop with ⟨_, e⟩ | ⟨_, ho⟩
    · have := h.gs k op hk' e; omega
    · simp only [List.mem_toArray, List.mem_cons, List.not_mem_nil, or_false] at ho
      rcases ho with e | e
      · rw [e, hy.1]; omega
      · rw [e, hz.1]; omega
/-- THE BEGINNING. -/
theorem TI.init (hT : x.T0 = t.size) (G : x.Geo) (h : Past x.Shun x.L0 t) (hun : ∀ k a ad, touchAt t k = some a → a.loc = .cell ad → ad.block ≠ x.C ∧ ad.block ≠ x.Wg) (hnr : NoRelease (stA x.Wg) t) : x.TI (fun _ => none) (fun _ => none) 0 t := by
  refine ⟨h.clean, fun i op y hi hy hs => ?_, fun i hi => by omega, fun i hi => by omega, fun k a ha hm => (h.known k a ha hm).imp id .inl, fun k a i hk hi => by omega, fun k g hg hn hc => .inr (h.over k g hg hn hc), fun k a ad ha he => ⟨fun hL => ?_, fun e => absurd e (hun k a ad ha he).1⟩, hnr, Nat.le_of_eq hT, fun k op hk hop => ?_⟩
  · obtain ⟨ad, e, hb⟩ := hs
    exact absurd hb (hun i y ad ((touchAt_of hi).trans hy) e).2
  · obtain ⟨op, ho, hoa⟩ := touch_of ha
    have hlow := h.seen op (mem_of_getElem? ho)
    have : ad.block < x.L0 := by
      obtain ⟨g, fn, pos, act⟩ := op
      cases act with
      | access e =>
        simp only [MemAct.touch?, Option.some.injEq] at hoa
        subst hoa
        simp only at he
        simp only [MemAct.low, he, Loc.low] at hlow
        exact hlow
      | mark m =>
        cases m <;> simp [MemAct.touch?] at hoa
        · subst hoa; simp only [Loc.cell.injEq] at he; subst he; exact hlow
        · subst hoa; simp only [Loc.cell.injEq] at he; subst he; exact hlow
      | _ => simp [MemAct.touch?] at hoa
    omega
  · have := lt_size_of_getElem? hop
    omega
/-- THE END: goroutine 0 has acquired, hearing, behind each worker's release. -/
theorem TI.past {x : Ph} {B p : Nat} (h : x.TI ob oj j t) (hp : t.act? p = some (.mark (.acquire (stA x.Wg)))) (hg : t.g? p = some 0) (hh : t.heard p)
    (hr : ∀ i, i < j → ∃ r, RelBy (stA x.Wg) t (x.c + i) r ∧ r < p) (h0 : Deaf t 0 = 0) (hs : ∀ op ∈ t, op.act.low B) : Past (fun l => x.Shun l ∨ x.Sh l) B t := by
  have edge : ∀ i, i < j → ∀ k, x.T0 ≤ k → t.g? k = some (x.c + i) → t.counts k → HappensBefore t k p := by
    intro i hi k hk hgk hc
    obtain ⟨r, hrel, hrp⟩ := hr i hi
    have e1 : HappensBefore t r p := .single (.inr ⟨.marked hrp (.inr hrel.act) hp (fun m _ _ => h.norel m), hrel.heard, hh⟩)
    have hle : k ≤ r := Nat.le_of_not_lt fun hlt => hrel.after k hlt hgk hc
    rcases Nat.lt_or_ge k r with hlt | hge
    · exact .trans (.single (.inl ⟨hlt, _, hgk, hrel.g⟩)) e1
    · obtain rfl : k = r := by omega
      exact e1
  refine ⟨h.clean, fun k a ha hm => ?_, fun k g hgk hn hc => ?_, h0, hs⟩
  · rcases h.known k a ha hm with h3 | ⟨h3, h4⟩ | ⟨h3, i, hi, h4⟩
    · exact .inl h3
    · exact .inr ⟨.inl h3, h4⟩
    · by_cases hc : t.counts k
      · obtain ⟨op, hop, hog⟩ := Option.map_eq_some_iff.1 hg
        exact .inl ⟨p, op, hop, hog, .inr (edge i hi k h3 h4 hc)⟩
      · rcases h.wk k a i h3 hi h4 ha with ⟨hs', hk⟩ | ⟨hk, _⟩
        · exact .inr ⟨.inr hs', hk⟩
        · exact absurd ⟨a, ha, hm, .inl (by rw [hk]; simp)⟩ hc
  · rcases h.over k g hgk hn hc with ⟨h3, i, hi, rfl⟩ | h3
    · exact ⟨p, hg, edge i hi k h3 hgk hc⟩
    · exact h3
end Ph
end
end Go.Proofs.YtacimedkchjfnaaGreat
end

section
/-! A send comes to a channel at which several goroutines are parked, each at the same select: the tape picks one. -/
namespace Go.Proofs.YtacimedkchjfnaaGreat
set_option linter.unusedSimpArgs false
set_option linter.unusedVariables false
open Go.Conc
section
variable {P : Program} {gs : Array Goroutine} {w w₁ : World} {sl : Option (Nat × Nat)} {i : Nat} {g g₂ : Goroutine} {es : Array Event} {blocking : Bool} {shape shj : CommShape} {c cap s r : Nat} {buf : Array Value} {tm : Bool} {v z zj : Value} {cs : Array CommCase}
theorem draw_below (ps : List (Nat × Nat)) (hlen : 0 < ps.length) (w : World) : ∃ b d, b < ps.length ∧ (choose (.extern "which waiting goroutine is the partner" ps.length)).run P w = .ok b (w.at d) := by
  by_cases hf : ps.length = 1
  · refine ⟨0, w.drawn, hlen, ?_⟩
    simp [choose, Question.forced, hf, Sem.run, pure, World.at]
  · refine ⟨(Question.extern "which waiting goroutine is the partner" ps.length).cut (w.tape w.drawn (.extern "which waiting goroutine is the partner" ps.length)), w.drawn + 1, ?_, ?_⟩
    · simp only [Question.cut]
      rw [if_neg (by omega)]
      exact Nat.mod_lt _ hlen
    · simp [choose, Question.forced, hf, Sem.run, pure, World.at]
theorem send_meets_one_of (hi : gs[i]? = some g) (h : stepG P (i == 0) g w = .comm g₂ #[scase c v z] blocking shape w₁ es) (hc : w₁.heap[c]? = some (.chan cap buf false s r tm))
    (hk : cs[0]? = some (rcase c zj)) (hne : partners (gs.setIfInBounds i ph) c false ≠ [])
    (hall : ∀ j k, (j, k) ∈ partners (gs.setIfInBounds i ph) c false → k = 0 ∧ j ≠ i ∧ ∃ gj, gs[j]? = some (parked gj cs shj)) :
    ∃ (j : Nat) (gj : Goroutine) (d : Nat), j ≠ i ∧ gs[j]? = some (parked gj cs shj) ∧
      runT P (crowd gs w sl) i = (.next (crowd ((gs.setIfInBounds j (gj.finishComm P cs shj 0 v true)).setIfInBounds i (g₂.finishComm P #[scase c v z] shape 0 undef false)) ((w₁.at d).setChan c cap buf false (s + 1) (r + 1) tm) sl),
        MemOp.ofEvents i g.frame.fn g.frame.place es ++ #[{ g := i, fn := g₂.frame.fn, pos := g₂.frame.place, act := .send c s }, { g := j, fn := gj.frame.fn, pos := gj.frame.place, act := .recv c r cap },
          { g := i, fn := g₂.frame.fn, pos := g₂.frame.place, act := .sendDone c s }, { g := j, fn := gj.frame.fn, pos := gj.frame.place, act := .recvDone c r }]) := by
  generalize hps : partners (gs.setIfInBounds i ph) c false = ps at hne hall
  have hlen : 0 < ps.length := List.length_pos_iff.2 hne
  obtain ⟨b, d, hb, hpick⟩ := draw_below (P := P) ps hlen w₁
  obtain ⟨⟨j, k⟩, hjk⟩ : ∃ p, ps[b]? = some p := ⟨ps[b], List.getElem?_eq_getElem hb⟩
  obtain ⟨rfl, hij, gj, hj⟩ := hall j k (List.mem_of_getElem? hjk)
  refine ⟨j, gj, d, hij, hj, ?_⟩
  rw [runT_crowd_comm hi h]
  have hj' := stand_get (i := i) hij hj
  have hfp := finishPartner_at P (gs.setIfInBounds i ph) hj' (cs := cs) (sh := shj) rfl 0 v
  have hgd : (gs.setIfInBounds i ph).getD j default = parked gj cs shj := by rw [Array.getD_eq_getD_getElem?, hj']; rfl
  have hw : ways w₁ (gs.setIfInBounds i ph) { chan := .chan (some c), send := some v, zero := z } = ps.map fun (h, k) => Way.partner h k := by
    simp only [ways, hc, hps]
    cases ps with
    | nil => exact absurd rfl hne
    | cons p ps => simp
  have hwne : (ps.map fun (h, k) => Way.partner h k).isEmpty = false := by cases ps with
    | nil => exact absurd rfl hne
    | cons p ps => rfl
  have hgm := getD_map_partner ps b (j, 0) hjk
  have hlm : (ps.map fun (h, k) => Way.partner h k).length = ps.length := List.length_map ..
  have hk0 : (#[scase c v z] : Array CommCase)[0]? = some (scase c v z) := rfl
  have ho : ∀ (m : Nat) (c' : CommCase), m ≠ 0 → (#[scase c v z] : Array CommCase)[m]? = some c' → NoWays w₁ (gs.setIfInBounds i ph) c' := fun m c' hm e => by
    cases m with
    | zero => exact absurd rfl hm
    | succ m => simp at e
  unfold communicate
  simp only [ready_one hk0 (by rw [show ways w₁ (gs.setIfInBounds i ph) (scase c v z) = _ from hw]; intro e; rw [e] at hwne; cases hwne) ho, show ways w₁ (gs.setIfInBounds i ph) (scase c v z) = _ from hw]
  rw [if_neg]
  · have hca : (w₁.at d).heap[c]? = some (.chan cap buf false s r tm) := hc
    have hsel : ∀ (w : World), (choose (.select 1)).run P w = .ok 0 w := fun w => by simp [choose, Question.forced, Sem.run, pure]
    simp only [List.isEmpty_cons, Bool.false_eq_true, if_false, List.length_cons, List.length_nil, Nat.zero_add, Sem.run_bind, hsel, Result.andThen, List.getD_cons_zero, hlm, hpick, hgm, Sem.run, pure, scase, hca]
    simp [World.setChan, crowd, hfp, hgd, set_stand2, finishComm_parked, rcase, parked, hk]
    rfl
  · rw [Bool.not_eq_true]; exact any_ill (made_of_one hk0 (made_send v z hc) ho)
end
end Go.Proofs.YtacimedkchjfnaaGreat
end
