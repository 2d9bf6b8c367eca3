/- Part 17 of the proof: A14, A15, A16, A17, A18, A19, A20. -/
import Derived.Test.YtacimedkchjfnaaGreatV16
import Derived.Test.YtacimedkchjfnaaGreatProg
import Derived.KernelRfl
section
/-! The walk beside leavers, without a bound on the number of steps, and with whatever is held of the world and the trace. -/
namespace Go.Proofs.YtacimedkchjfnaaGreat
set_option linter.unusedSimpArgs false
set_option linter.unusedVariables false
open Go.Conc
open Go.ConcN (sumTo upd sumTo_upd upd_ne upd_same)

section
variable {P : Program} {D : World → World → Array Event → Prop} {Stop : Goroutine → World → Prop}

theorem g_of {g : Nat} {fn : FuncId} {pos : String} {es : Array Event} {op : MemOp} (h : op ∈ MemOp.ofEvents g fn pos es) : op.g = g := by
  unfold MemOp.ofEvents at h
  split at h
  · simp at h
  · obtain ⟨e, _, rfl⟩ := Array.mem_map.1 h
    rfl

theorem bw_beside (I : World → Trace → Prop) (hat : ∀ w t d, I w t → I (w.at d) t)
    (hown : ∀ w w' es fn pos t, I w t → D w w' es → I w' (t ++ MemOp.ofEvents 0 fn pos es))
    (hmute : ∀ w t i fn pos (es : Array Event), i ≠ 0 → I w t → (∀ e ∈ es, e.mute = true) → I w (t ++ MemOp.ofEvents i fn pos es))
    {a : Goroutine} {w : World} (hG : BW P D Stop a w) :
    ∀ (gs : Array Goroutine) (d0 : Nat) (sl : Option (Nat × Nat)) (t : Trace) (q : Nat → Nat), gs[0]? = some a → Leavers P t gs q → I w t →
      ∃ (N : Nat) (gs' : Array Goroutine) (a' : Goroutine) (w' : World) (sl' : Option (Nat × Nat)) (t' : Trace) (q' : Nat → Nat),
        runNT P N (crowd gs (w.at d0) sl) t = (.next (crowd gs' w' sl'), t') ∧ gs'.size = gs.size ∧ gs'[0]? = some a' ∧ Stop a' w' ∧ Leavers P t' gs' q' ∧ I w' t' := by
  induction hG with
  | @stop g w h =>
    intro gs d0 sl t q h0 hL hI
    exact ⟨0, gs, g, w.at d0, sl, t, q, rfl, rfl, h0, h d0, hL, hat _ _ _ hI⟩
  | @step a w hrun g' w' es hst hD hB ih =>
    intro gs d0 sl t q h0 hL hI
    have key : ∀ (M : Nat) (gs : Array Goroutine) (d0 : Nat) (sl : Option (Nat × Nat)) (t : Trace) (q : Nat → Nat), sumTo gs.size q ≤ M → gs[0]? = some a → Leavers P t gs q → I w t →
        ∃ (N : Nat) (gs' : Array Goroutine) (a' : Goroutine) (w1 : World) (sl' : Option (Nat × Nat)) (t' : Trace) (q' : Nat → Nat),
          runNT P N (crowd gs (w.at d0) sl) t = (.next (crowd gs' w1 sl'), t') ∧ gs'.size = gs.size ∧ gs'[0]? = some a' ∧ Stop a' w1 ∧ Leavers P t' gs' q' ∧ I w1 t' := by
      intro M
      induction M using Nat.strongRecOn with
      | _ M ihM =>
      intro gs d0 sl t q hM h0 hL hI
      have haw : ∀ g ∈ gs, awake g := by
        intro g hg
        obtain ⟨i, hi, rfl⟩ := Array.mem_iff_getElem.1 hg
        rcases Nat.eq_zero_or_pos i with rfl | hpos
        · have : gs[0] = a := by simpa [Array.getElem?_eq_getElem hi] using h0
          rw [this]; exact awake_of (.inl hrun)
        · exact awake_of ((hL.old i _ hpos (Array.getElem?_eq_getElem hi)).status.elim .inl fun x => .inr (.inr x))
      obtain ⟨i, g, d, sl', hi, hg, hpick⟩ := crowd_pick (P := P) (w := w.at d0) (sl := sl) haw ⟨0, a, h0, hrun⟩
      have hdd : (w.at d0).at d = w.at d := rfl
      rw [hdd] at hpick
      rcases Nat.eq_zero_or_pos i with rfl | hpos
      · obtain rfl : g = a := by rw [h0] at hi; exact (Option.some.inj hi).symm
        have hrunT := runT_crowd_go (P := P) (sl := sl') (i := 0) hi (show stepG P (0 == 0) g (w.at d) = _ from hst d)
        have hsz : ((gs.map (woken P g (g' d) (w' d))).setIfInBounds 0 (g' d)).size = gs.size := by simp
        have hlt : 0 < gs.size := (Array.getElem?_eq_some_iff.1 h0).1
        obtain ⟨N, gs', a', w1, sl'', t', q', hr, hs', h0', hS, hL', hI'⟩ := ih d ((gs.map (woken P g (g' d) (w' d))).setIfInBounds 0 (g' d)) (w' d).drawn sl' (t ++ MemOp.ofEvents 0 g.frame.fn g.frame.place (es d)) q (by simp [hlt])
          ⟨fun j x hj hx => by
            have hne : 0 ≠ j := by omega
            rw [Array.getElem?_setIfInBounds_ne hne, Array.getElem?_map] at hx
            obtain ⟨y, hy, rfl⟩ := Option.map_eq_some_iff.1 hx
            have hq := hL.old j y hj hy
            rw [woken_quitsD hq, Deaf_other t (by omega) _ (fun op hop => g_of hop)]
            exact hq, fun j hj => by
            rw [Deaf_other t (g' := 0) (by simp at hj; omega) _ (fun op hop => g_of hop)]
            exact hL.above j (by simpa using hj)⟩
          (hown _ _ _ _ _ _ (hat _ _ d hI) (hD d))
        exact ⟨N + 1, gs', a', w1, sl'', t', q', by simp only [runNT, hpick, hrunT]; exact hr, hs'.trans hsz, h0', hS, hL', hI'⟩
      · have hq := hL.old i g hpos hi
        have hi0 : (i == 0) = false := by simp; omega
        have hlt : i < gs.size := (Array.getElem?_eq_some_iff.1 hi).1
        cases hqi : q i with
        | zero => rw [hqi] at hq; rw [hq.1] at hg; cases hg
        | succ k =>
          rw [hqi] at hq
          rcases hq with ⟨hf, _⟩ | ⟨_, g1, es1, hm, hstp, hq'⟩
          · rw [hf] at hg; cases hg
          have hrunT := runT_crowd_go (P := P) (sl := sl') (i := i) hi (by rw [hi0]; exact hstp (w.at d))
          have hsz : ((gs.map (woken P g g1 (w.at d))).setIfInBounds i g1).size = gs.size := by simp
          have hsum : sumTo gs.size (upd q i k) + (k + 1) = sumTo gs.size q + k := by
            have := sumTo_upd q k id hlt
            simpa [hqi] using this
          obtain ⟨N, gs', a', w1, sl'', t', q', hr, hs', h0', hS, hL', hI'⟩ := ihM (sumTo gs.size (upd q i k)) (by omega) ((gs.map (woken P g g1 (w.at d))).setIfInBounds i g1) d sl' (t ++ MemOp.ofEvents i g.frame.fn g.frame.place es1) (upd q i k) (by rw [hsz]; exact Nat.le_refl _)
            (by
              have hne : i ≠ 0 := by omega
              rw [Array.getElem?_setIfInBounds_ne hne, Array.getElem?_map, h0]
              simp [woken_run hrun])
            ⟨fun j x hj hx => by
              by_cases hji : i = j
              · subst hji
                rw [Array.getElem?_setIfInBounds_self_of_lt (by simpa using hlt)] at hx
                obtain rfl := Option.some.inj hx
                rw [upd_same, Deaf_own]
                exact hq'
              · rw [Array.getElem?_setIfInBounds_ne hji, Array.getElem?_map] at hx
                obtain ⟨y, hy, rfl⟩ := Option.map_eq_some_iff.1 hx
                have hqj := hL.old j y hj hy
                rw [woken_quitsD hqj, upd_ne q k (Ne.symm hji), Deaf_other t hji _ (fun op hop => g_of hop)]
                exact hqj, fun j hj => by
              rw [Deaf_other t (g' := i) (by simp at hj; omega) _ (fun op hop => g_of hop)]
              exact hL.above j (by simpa using hj)⟩
            (hmute _ _ _ _ _ _ (by omega) hI hm)
          exact ⟨N + 1, gs', a', w1, sl'', t', q', by simp only [runNT, hpick, hrunT]; exact hr, hs'.trans hsz, h0', hS, hL', hI'⟩
    exact key _ gs d0 sl t q (Nat.le_refl _) h0 hL hI
end
end Go.Proofs.YtacimedkchjfnaaGreat
end

section
/-! This program's code asks within: by a test that the kernel runs. -/
namespace Go.Proofs.YtacimedkchjfnaaGreat
set_option linter.unusedSimpArgs false
set_option linter.unusedVariables false
open Go.Conc

def clB : Value → Bool
  | .bool _ | .int _ _ | .string _ | .pointer none | .slice none _ _ | .nilFunc | .nilIface | .map none | .chan none => true
  | _ => false
theorem cl_of_B {S : Sc} {v : Value} (h : clB v = true) : Cl S v := by
  unfold clB at h
  split at h <;> first | exact .bool _ | exact .int _ _ | exact .string _ | exact .ptr0 | exact .slice0 _ _ | exact .nilFunc | exact .nilIface | exact .map0 | exact .chan0 | cases h
def memB (L : List Nat) (f : Nat) : Bool := L.any (Nat.beq f)
def operandB (L : List Nat) : Operand → Bool
  | .tmp _ => true
  | .const v => clB v
  | .global g => Nat.beq g 0
  | .func f => memB L f
def nameB (N : List (List Nat)) (s : String) : Bool := N.any fun n => s.toList.map Char.toNat == n
def opB (P : Program) (L : List Nat) (N : List (List Nat)) (o : Op) : Bool :=
  o.operands.all (operandB L) && match o with
  | .move _ | .assign _ | .pick .. | .alloc _ | .box .. | .build .. | .buildSlice .. | .load .. | .store .. | .binOp .. | .unOp .. | .makeInterface .. | .makeSlice .. | .slice .. | .fieldAddr ..
  | .field .. | .indexAddr .. | .index .. | .range .. | .typeAssert .. | .extract .. | .panic _ | .nilCheck _ => true
  | .convert _ d _ => match P.underlying d with | some (.float _) => false | _ => true
  | .next _ s => s
  | .makeFunc fn _ _ => match fn with | .func f => memB L f | .method n => nameB N n | _ => false
  | .call c => match c.callee with
    | .value _ => true
    | .invoke _ n => nameB N n
    | .builtin b => builtinOk b
  | .defer c => match c.callee with
    | .value _ => true
    | .invoke _ n => nameB N n
    | .builtin _ => false
  | _ => false
/-- The slots that may name what came in. -/
def DK : List (Nat × List Nat) := [(3, [0, 5, 9, 14, 17]), (4, [0, 14, 18, 27, 67, 72, 74, 96, 98, 105]), (5, [0, 1, 14, 16, 21, 23, 30, 33, 39, 42]), (6, [0, 6, 13, 15]), (9, [0, 11, 26, 28]), (10, [0, 16, 21, 23, 30, 32])]
def dK (f t : Nat) : Bool := DK.any fun p => Nat.beq p.1 f && memB p.2 t
def avoidB (f : Nat) : Operand → Bool
  | .tmp t => !dK f t
  | _ => true
def dstB (f : Nat) : Option Tmp → Bool
  | some t => dK f t
  | none => false
def tmpB : Operand → Bool
  | .tmp _ => true
  | _ => false
def argsB (L : List Nat) (f g : Nat) : Nat → List Operand → Bool
  | _, [] => true
  | i, x :: l => operandB L x && (dK g i || avoidB f x) && argsB L f g (i + 1) l
def koB (L : List Nat) (f : Nat) (o : Oper) : Bool :=
  match o.op with
  | .move x => tmpB x && dstB f o.dst
  | .indexAddr ty x i => Nat.beq ty 22 && tmpB x && operandB L i && avoidB f i && dstB f o.dst
  | .load ty x => Nat.beq ty 9 && tmpB x
  | .call c => match c.callee with
    | .builtin .len => match c.args.toList, c.argTypes.toList with
      | [x], [ty] => tmpB x && Nat.beq ty 22
      | _, _ => false
    | .value (.func g) => Nat.beq g 10 && memB L g && argsB L f g 0 c.args.toList
    | _ => false
  | _ => false
def kopB (P : Program) (L : List Nat) (N : List (List Nat)) (f : Nat) (o : Oper) : Bool := (opB P L N o.op && o.op.operands.all (avoidB f)) || koB L f o
def codeB (P : Program) (L : List Nat) (N : List (List Nat)) (f : Nat) : Code → Bool
  | .skip | .exit _ | .label _ | .goto _ | .ret | .refuse _ => true
  | .region _ ops _ => ops.all (kopB P L N f)
  | .seq a b => codeB P L N f a && codeB P L N f b
  | .cond _ a b => codeB P L N f a && codeB P L N f b
  | .block _ c | .loop c | .scope c => codeB P L N f c
  | .rangeFunc .. => false
def funcB (P : Program) (L : List Nat) (N : List (List Nat)) (f : Nat) : Bool :=
  match P.funcs[f]? with
  | some fn => match fn.body with | some c => codeB P L N f c | none => true
  | none => true

/-- The functions that the laws come to, shards aside, and the names of methods that are called through interfaces. -/
def LK : List Nat := [6, 8, 10, 11, 12, 15, 17, 18, 27, 7, 13, 14, 19, 20, 21, 22, 28, 29, 30, 31, 32, 33, 44, 49, 50, 51, 52, 58, 59, 60, 61, 62, 63, 64, 65, 66, 67, 68, 69, 70, 71, 72, 73, 74, 75, 76, 77, 78, 79, 80, 81, 82, 83, 100, 101, 102, 103, 104, 105, 106, 107, 108, 109, 110, 111, 112, 113, 114, 115, 116, 117, 118, 119, 120, 121, 122, 123, 124, 126, 127, 128, 129, 130]
def NK : List (List Nat) := [[82, 101, 112, 108, 97, 99, 101], [87, 114, 105, 116, 101, 83, 116, 114, 105, 110, 103], [87, 114, 105, 116, 101]]

/-- Those among them that say nothing. -/
def LP : List Nat := [6, 8, 10, 11, 12, 13, 15, 17, 18, 27]
theorem funcs_pure : (LP.all fun f => funcB Tryz.prog LP [] f) = true := by kernel_rfl
theorem funcs_ok : (LK.all fun f => funcB Tryz.prog LK NK f) = true := by kernel_rfl

/-- The blocks B, the functions of L, the methods named in N; K: the cells that came in. -/
def scOf (B : Nat → Prop) (K : Addr → Prop) (q : Bool) (L : List Nat) (N : List (List Nat)) : Sc where
  b := B
  f := fun fn => (∃ f, fn = .func f ∧ memB L f = true) ∨ ∃ n, fn = .method n ∧ nameB N n = true
  k := K
  d := dK
  q := q

theorem operand_ok {B : Nat → Prop} {K : Addr → Prop} {q : Bool} {L : List Nat} {N : List (List Nat)} (h0 : B 0) {x : Operand} (h : operandB L x = true) : OperandOk (scOf B K q L N) x := by
  cases x with
  | tmp t => exact .tmp t
  | const v => exact .const v (cl_of_B h)
  | global g => exact .global g (by have : g = 0 := Nat.eq_of_beq_eq_true h; subst this; exact h0)
  | func f => exact .func f (.inl ⟨f, rfl, h⟩)
theorem op_ok {P : Program} {B : Nat → Prop} {K : Addr → Prop} {q : Bool} {L : List Nat} {N : List (List Nat)} (h0 : B 0) {o : Op} (h : opB P L N o = true) : OpOk (scOf B K q L N) P o := by
  unfold opB at h
  rw [Bool.and_eq_true] at h
  refine ⟨fun x hx => operand_ok h0 (by have := Array.all_eq_true_iff_forall_mem.1 h.1 x hx; exact this), ?_⟩
  have h2 := h.2
  cases o with
  | convert s d x =>
    dsimp only at h2 ⊢
    intro k e
    rw [e] at h2
    cases h2
  | next x s => exact h2
  | makeFunc fn a b =>
    dsimp only at h2 ⊢
    cases fn with
    | func f => exact .inl ⟨f, rfl, h2⟩
    | method n => exact .inr ⟨n, rfl, h2⟩
    | _ => cases h2
  | call c =>
    dsimp only at h2 ⊢
    split
    · trivial
    · rename_i hc; rw [hc] at h2; exact .inr ⟨_, rfl, h2⟩
    · rename_i hc; rw [hc] at h2; exact h2
  | defer c =>
    dsimp only at h2 ⊢
    split
    · trivial
    · rename_i hc; rw [hc] at h2; exact .inr ⟨_, rfl, h2⟩
    · rename_i hc; rw [hc] at h2; cases h2
  | _ => first | trivial | cases h2
theorem avoid_of_B {B : Nat → Prop} {K : Addr → Prop} {q : Bool} {L : List Nat} {N : List (List Nat)} {f : Nat} {x : Operand} (h : avoidB f x = true) : Avoid (scOf B K q L N) f x := by
  cases x with
  | tmp t =>
    show dK f t = false
    simpa [avoidB] using h
  | _ => trivial
theorem tmp_of_B {x : Operand} (h : tmpB x = true) : ∃ t, x = .tmp t := by
  cases x with
  | tmp t => exact ⟨t, rfl⟩
  | _ => cases h
theorem dst_of_B {f : Nat} {x : Option Tmp} (h : dstB f x = true) : ∃ t, x = some t ∧ dK f t = true := by
  cases x with
  | some t => exact ⟨t, rfl, h⟩
  | none => cases h
theorem args_of_B {B : Nat → Prop} {K : Addr → Prop} {q : Bool} {L : List Nat} {N : List (List Nat)} (h0 : B 0) {f g : Nat} : ∀ {l : List Operand} {k : Nat}, argsB L f g k l = true → ∀ (i : Nat) x, l[i]? = some x → OperandOk (scOf B K q L N) x ∧ (dK g (k + i) = false → Avoid (scOf B K q L N) f x) := by
  intro l
  induction l with
  | nil => intro k _ i x h; simp at h
  | cons y l ih =>
    intro k h i x hx
    simp only [argsB, Bool.and_eq_true, Bool.or_eq_true] at h
    obtain ⟨⟨h1, h2⟩, h3⟩ := h
    cases i with
    | zero =>
      simp only [List.getElem?_cons_zero, Option.some.injEq] at hx
      subst hx
      refine ⟨operand_ok h0 h1, fun e => ?_⟩
      rcases h2 with h2 | h2
      · rw [Nat.add_zero] at e
        rw [e] at h2
        cases h2
      · exact avoid_of_B h2
    | succ i =>
      have := ih h3 i x (by simpa using hx)
      rw [show k + 1 + i = k + (i + 1) by omega] at this
      exact this
/-- What is asked of the program for what came in: slices of texts; the one function that they are handed to. -/
structure KP (P : Program) : Prop where
  u22 : P.underlying 22 = some (.slice 9)
  u9 : P.underlying 9 = some .string
  s9 : ∀ j, P.info? 9 = some j → j.size = 1
  f10 : ∃ fn, P.funcs[10]? = some fn ∧ (fn.name == "runtime.NumGoroutine") = false ∧ fn.body.isNone = false
theorem kop_ok {P : Program} (Y : KP P) {B : Nat → Prop} {K : Addr → Prop} {q : Bool} {L : List Nat} {N : List (List Nat)} (h0 : B 0) {f : Nat} {o : Oper} (h : kopB P L N f o = true) : KOp (scOf B K q L N) P f o := by
  unfold kopB at h
  rw [Bool.or_eq_true, Bool.and_eq_true] at h
  rcases h with ⟨h1, h2⟩ | h
  · exact .plain (op_ok h0 h1) fun x hx => avoid_of_B (Array.all_eq_true_iff_forall_mem.1 h2 x hx)
  · unfold koB at h
    split at h
    · rename_i x hop
      rw [Bool.and_eq_true] at h
      obtain ⟨t, rfl⟩ := tmp_of_B h.1
      obtain ⟨t', e, hd⟩ := dst_of_B h.2
      exact .move t t' hop e hd
    · rename_i ty x i hop
      simp only [Bool.and_eq_true] at h
      obtain ⟨⟨⟨⟨h1, h2⟩, h3⟩, h4⟩, h5⟩ := h
      obtain ⟨t, rfl⟩ := tmp_of_B h2
      obtain ⟨t', e, hd⟩ := dst_of_B h5
      have : ty = 22 := Nat.eq_of_beq_eq_true h1
      subst this
      exact .addr 22 9 t t' i hop (operand_ok h0 h3) (avoid_of_B h4) Y.u22 Y.s9 e hd
    · rename_i ty x hop
      rw [Bool.and_eq_true] at h
      obtain ⟨t, rfl⟩ := tmp_of_B h.2
      have : ty = 9 := Nat.eq_of_beq_eq_true h.1
      subst this
      exact .load 9 t hop Y.u9
    · rename_i c hop
      obtain ⟨callee, args, ats⟩ := c
      dsimp only at h
      split at h
      · split at h
        · rename_i x ty e1 e2
          rw [Bool.and_eq_true] at h
          obtain ⟨t, rfl⟩ := tmp_of_B h.1
          have : ty = 22 := Nat.eq_of_beq_eq_true h.2
          subst this
          have e1' : args = #[.tmp t] := by cases args; simpa using e1
          have e2' : ats = #[22] := by cases ats; simpa using e2
          subst e1' e2'
          exact .len 22 9 t hop Y.u22
        · cases h
      · rename_i g
        simp only [Bool.and_eq_true] at h
        obtain ⟨⟨h1, h2⟩, h3⟩ := h
        have : g = 10 := Nat.eq_of_beq_eq_true h1
        subst this
        refine .call 10 args ats hop (.inl ⟨10, rfl, h2⟩) Y.f10 fun i x hx => ?_
        have := args_of_B (B := B) (K := K) (q := q) (N := N) h0 h3 i x (by simpa using hx)
        rw [Nat.zero_add] at this
        exact this
      · cases h
    · cases h
theorem code_ok {P : Program} (Y : KP P) {B : Nat → Prop} {K : Addr → Prop} {q : Bool} {L : List Nat} {N : List (List Nat)} (h0 : B 0) {f : Nat} : ∀ {c : Code}, codeB P L N f c = true → CodeOk (scOf B K q L N) P f c := by
  intro c
  induction c with
  | region id ops draw =>
    intro h o ho
    exact kop_ok Y h0 (Array.all_eq_true_iff_forall_mem.1 h o ho)
  | seq a b iha ihb => intro h; rw [codeB, Bool.and_eq_true] at h; exact ⟨iha h.1, ihb h.2⟩
  | cond o a b iha ihb => intro h; rw [codeB, Bool.and_eq_true] at h; exact ⟨iha h.1, ihb h.2⟩
  | block id c ih => exact fun h => ih h
  | loop c ih => exact fun h => ih h
  | scope c ih => exact fun h => ih h
  | rangeFunc f p a b => intro h; cases h
  | _ => intro _; trivial
end Go.Proofs.YtacimedkchjfnaaGreat
end

section
/-! This program's functions without a body. -/
namespace Go.Proofs.YtacimedkchjfnaaGreat
set_option linter.unusedSimpArgs false
set_option linter.unusedVariables false
open Go.Conc

theorem rown31 : Extern.findNext Tryz.f31 = none := by kernel_rfl
theorem rowf31 : Extern.find Tryz.f31 = some (Extern.Race.marked .releaseMerge) := by kernel_rfl
theorem rown32 : Extern.findNext Tryz.f32 = none := by kernel_rfl
theorem rowf32 : Extern.find Tryz.f32 = some (fun _ => do mark .disable; pure Extern.Race.none_) := by kernel_rfl
theorem rown33 : Extern.findNext Tryz.f33 = none := by kernel_rfl
theorem rowf33 : Extern.find Tryz.f33 = some (fun _ => do mark .enable; pure Extern.Race.none_) := by kernel_rfl
theorem rown44 : Extern.findNext Tryz.f44 = none := by kernel_rfl
theorem rowf44 : Extern.find Tryz.f44 = some (Extern.Race.marked .acquire) := by kernel_rfl
theorem rown49 : Extern.findNext Tryz.f49 = none := by kernel_rfl
theorem rowf49 : Extern.find Tryz.f49 = some (Extern.AbiNoEscape.same) := by kernel_rfl
theorem rown58 : Extern.findNext Tryz.f58 = none := by kernel_rfl
theorem rowf58 : Extern.find Tryz.f58 = some (Extern.Atomic.loadT (.int .u32)) := by kernel_rfl
theorem rown66 : Extern.findNext Tryz.f66 = none := by kernel_rfl
theorem rowf66 : Extern.find Tryz.f66 = some (Extern.Atomic.storeT) := by kernel_rfl
theorem rown70 : Extern.findNext Tryz.f70 = none := by kernel_rfl
theorem rowf70 : Extern.find Tryz.f70 = some (Extern.Atomic.casT (.int .i32)) := by kernel_rfl
theorem rown72 : Extern.findNext Tryz.f72 = none := by kernel_rfl
theorem rowf72 : Extern.find Tryz.f72 = some (Extern.Atomic.update (Op.intArith .add) .i32 true) := by kernel_rfl
theorem rown76 : Extern.findNext Tryz.f76 = none := by kernel_rfl
theorem rowf76 : Extern.find Tryz.f76 = some (Extern.Sync.canSpin) := by kernel_rfl
theorem rown77 : Extern.findNext Tryz.f77 = none := by kernel_rfl
theorem rowf77 : Extern.find Tryz.f77 = some (Extern.Sync.nothing) := by kernel_rfl
theorem rown78 : Extern.findNext Tryz.f78 = none := by kernel_rfl
theorem rowf78 : Extern.find Tryz.f78 = some (Extern.Sync.die .throw) := by kernel_rfl
theorem rown79 : Extern.findNext Tryz.f79 = none := by kernel_rfl
theorem rowf79 : Extern.find Tryz.f79 = some (Extern.OsHooks.nano) := by kernel_rfl
theorem rown80 : Extern.findNext Tryz.f80 = none := by kernel_rfl
theorem rowf80 : Extern.find Tryz.f80 = some (Extern.Sync.semacquire) := by kernel_rfl
theorem rown81 : Extern.findNext Tryz.f81 = none := by kernel_rfl
theorem rowf81 : Extern.find Tryz.f81 = some (Extern.Sync.die .fatal) := by kernel_rfl
theorem rown82 : Extern.findNext Tryz.f82 = none := by kernel_rfl
theorem rowf82 : Extern.find Tryz.f82 = some (Extern.Sync.semrelease) := by kernel_rfl
theorem rown105 : Extern.findNext Tryz.f105 = none := by kernel_rfl
theorem rowf105 : Extern.find Tryz.f105 = some (Extern.BytealgMakeNoZero.makeNoZero Tryz.f105.params Tryz.f105.resultTypes) := by kernel_rfl
theorem rown116 : Extern.findNext Tryz.f116 = none := by kernel_rfl
theorem rowf116 : Extern.find Tryz.f116 = some (Extern.BytealgCount.count) := by kernel_rfl
theorem rown120 : Extern.findNext Tryz.f120 = none := by kernel_rfl
theorem rowf120 : Extern.find Tryz.f120 = some (Extern.BytealgIndex.index) := by kernel_rfl
theorem rown123 : Extern.findNext Tryz.f123 = none := by kernel_rfl
theorem rowf123 : Extern.find Tryz.f123 = some (Extern.BytealgIndexByte.indexByte) := by kernel_rfl
end Go.Proofs.YtacimedkchjfnaaGreat
end

section
/-! This program's functions: each has a body that asks within, or a row that does. -/
namespace Go.Proofs.YtacimedkchjfnaaGreat
set_option linter.unusedSimpArgs false
set_option linter.unusedVariables false
open Go.Conc

def RowIs (S : Sc) (fn : Func) : Prop := (fn.name == "runtime.NumGoroutine") = false ∧ (fn.body.isNone = true → Extern.findNext fn = none ∧ ∃ e, Extern.find fn = some e ∧ RowAv S Tryz.prog e)
theorem rowIs_body {S : Sc} {fn : Func} (h1 : (fn.name == "runtime.NumGoroutine") = false) (h2 : fn.body.isNone = false) : RowIs S fn := ⟨h1, fun h => by rw [h2] at h; cases h⟩
theorem rowIs_row {S : Sc} {fn : Func} {e : Array Value → Sem Value} (h1 : (fn.name == "runtime.NumGoroutine") = false) (h2 : Extern.findNext fn = none) (h3 : Extern.find fn = some e) (h4 : RowAv S Tryz.prog e) : RowIs S fn := ⟨h1, fun _ => ⟨h2, e, h3, h4⟩⟩
theorem nm6 : (Tryz.f6.name == "runtime.NumGoroutine") = false := by kernel_rfl
theorem bd6 : Tryz.f6.body.isNone = false := by kernel_rfl
theorem nm8 : (Tryz.f8.name == "runtime.NumGoroutine") = false := by kernel_rfl
theorem bd8 : Tryz.f8.body.isNone = false := by kernel_rfl
theorem nm10 : (Tryz.f10.name == "runtime.NumGoroutine") = false := by kernel_rfl
theorem bd10 : Tryz.f10.body.isNone = false := by kernel_rfl
theorem nm11 : (Tryz.f11.name == "runtime.NumGoroutine") = false := by kernel_rfl
theorem bd11 : Tryz.f11.body.isNone = false := by kernel_rfl
theorem nm12 : (Tryz.f12.name == "runtime.NumGoroutine") = false := by kernel_rfl
theorem bd12 : Tryz.f12.body.isNone = false := by kernel_rfl
theorem nm15 : (Tryz.f15.name == "runtime.NumGoroutine") = false := by kernel_rfl
theorem bd15 : Tryz.f15.body.isNone = false := by kernel_rfl
theorem nm17 : (Tryz.f17.name == "runtime.NumGoroutine") = false := by kernel_rfl
theorem bd17 : Tryz.f17.body.isNone = false := by kernel_rfl
theorem nm18 : (Tryz.f18.name == "runtime.NumGoroutine") = false := by kernel_rfl
theorem bd18 : Tryz.f18.body.isNone = false := by kernel_rfl
theorem nm27 : (Tryz.f27.name == "runtime.NumGoroutine") = false := by kernel_rfl
theorem bd27 : Tryz.f27.body.isNone = false := by kernel_rfl
theorem nm7 : (Tryz.f7.name == "runtime.NumGoroutine") = false := by kernel_rfl
theorem bd7 : Tryz.f7.body.isNone = false := by kernel_rfl
theorem nm13 : (Tryz.f13.name == "runtime.NumGoroutine") = false := by kernel_rfl
theorem bd13 : Tryz.f13.body.isNone = false := by kernel_rfl
theorem nm14 : (Tryz.f14.name == "runtime.NumGoroutine") = false := by kernel_rfl
theorem bd14 : Tryz.f14.body.isNone = false := by kernel_rfl
theorem nm19 : (Tryz.f19.name == "runtime.NumGoroutine") = false := by kernel_rfl
theorem bd19 : Tryz.f19.body.isNone = false := by kernel_rfl
theorem nm20 : (Tryz.f20.name == "runtime.NumGoroutine") = false := by kernel_rfl
theorem bd20 : Tryz.f20.body.isNone = false := by kernel_rfl
theorem nm21 : (Tryz.f21.name == "runtime.NumGoroutine") = false := by kernel_rfl
theorem bd21 : Tryz.f21.body.isNone = false := by kernel_rfl
theorem nm22 : (Tryz.f22.name == "runtime.NumGoroutine") = false := by kernel_rfl
theorem bd22 : Tryz.f22.body.isNone = false := by kernel_rfl
theorem nm28 : (Tryz.f28.name == "runtime.NumGoroutine") = false := by kernel_rfl
theorem bd28 : Tryz.f28.body.isNone = false := by kernel_rfl
theorem nm29 : (Tryz.f29.name == "runtime.NumGoroutine") = false := by kernel_rfl
theorem bd29 : Tryz.f29.body.isNone = false := by kernel_rfl
theorem nm30 : (Tryz.f30.name == "runtime.NumGoroutine") = false := by kernel_rfl
theorem bd30 : Tryz.f30.body.isNone = false := by kernel_rfl
theorem nm31 : (Tryz.f31.name == "runtime.NumGoroutine") = false := by kernel_rfl
theorem nm32 : (Tryz.f32.name == "runtime.NumGoroutine") = false := by kernel_rfl
theorem nm33 : (Tryz.f33.name == "runtime.NumGoroutine") = false := by kernel_rfl
theorem nm44 : (Tryz.f44.name == "runtime.NumGoroutine") = false := by kernel_rfl
theorem nm49 : (Tryz.f49.name == "runtime.NumGoroutine") = false := by kernel_rfl
theorem nm50 : (Tryz.f50.name == "runtime.NumGoroutine") = false := by kernel_rfl
theorem bd50 : Tryz.f50.body.isNone = false := by kernel_rfl
theorem nm51 : (Tryz.f51.name == "runtime.NumGoroutine") = false := by kernel_rfl
theorem bd51 : Tryz.f51.body.isNone = false := by kernel_rfl
theorem nm52 : (Tryz.f52.name == "runtime.NumGoroutine") = false := by kernel_rfl
theorem bd52 : Tryz.f52.body.isNone = false := by kernel_rfl
theorem nm58 : (Tryz.f58.name == "runtime.NumGoroutine") = false := by kernel_rfl
theorem nm59 : (Tryz.f59.name == "runtime.NumGoroutine") = false := by kernel_rfl
theorem bd59 : Tryz.f59.body.isNone = false := by kernel_rfl
theorem nm60 : (Tryz.f60.name == "runtime.NumGoroutine") = false := by kernel_rfl
theorem bd60 : Tryz.f60.body.isNone = false := by kernel_rfl
theorem nm61 : (Tryz.f61.name == "runtime.NumGoroutine") = false := by kernel_rfl
theorem bd61 : Tryz.f61.body.isNone = false := by kernel_rfl
theorem nm62 : (Tryz.f62.name == "runtime.NumGoroutine") = false := by kernel_rfl
theorem bd62 : Tryz.f62.body.isNone = false := by kernel_rfl
theorem nm63 : (Tryz.f63.name == "runtime.NumGoroutine") = false := by kernel_rfl
theorem bd63 : Tryz.f63.body.isNone = false := by kernel_rfl
theorem nm64 : (Tryz.f64.name == "runtime.NumGoroutine") = false := by kernel_rfl
theorem bd64 : Tryz.f64.body.isNone = false := by kernel_rfl
theorem nm65 : (Tryz.f65.name == "runtime.NumGoroutine") = false := by kernel_rfl
theorem bd65 : Tryz.f65.body.isNone = false := by kernel_rfl
theorem nm66 : (Tryz.f66.name == "runtime.NumGoroutine") = false := by kernel_rfl
theorem nm67 : (Tryz.f67.name == "runtime.NumGoroutine") = false := by kernel_rfl
theorem bd67 : Tryz.f67.body.isNone = false := by kernel_rfl
theorem nm68 : (Tryz.f68.name == "runtime.NumGoroutine") = false := by kernel_rfl
theorem bd68 : Tryz.f68.body.isNone = false := by kernel_rfl
theorem nm69 : (Tryz.f69.name == "runtime.NumGoroutine") = false := by kernel_rfl
theorem bd69 : Tryz.f69.body.isNone = false := by kernel_rfl
theorem nm70 : (Tryz.f70.name == "runtime.NumGoroutine") = false := by kernel_rfl
theorem nm71 : (Tryz.f71.name == "runtime.NumGoroutine") = false := by kernel_rfl
theorem bd71 : Tryz.f71.body.isNone = false := by kernel_rfl
theorem nm72 : (Tryz.f72.name == "runtime.NumGoroutine") = false := by kernel_rfl
theorem nm73 : (Tryz.f73.name == "runtime.NumGoroutine") = false := by kernel_rfl
theorem bd73 : Tryz.f73.body.isNone = false := by kernel_rfl
theorem nm74 : (Tryz.f74.name == "runtime.NumGoroutine") = false := by kernel_rfl
theorem bd74 : Tryz.f74.body.isNone = false := by kernel_rfl
theorem nm75 : (Tryz.f75.name == "runtime.NumGoroutine") = false := by kernel_rfl
theorem bd75 : Tryz.f75.body.isNone = false := by kernel_rfl
theorem nm76 : (Tryz.f76.name == "runtime.NumGoroutine") = false := by kernel_rfl
theorem nm77 : (Tryz.f77.name == "runtime.NumGoroutine") = false := by kernel_rfl
theorem nm78 : (Tryz.f78.name == "runtime.NumGoroutine") = false := by kernel_rfl
theorem nm79 : (Tryz.f79.name == "runtime.NumGoroutine") = false := by kernel_rfl
theorem nm80 : (Tryz.f80.name == "runtime.NumGoroutine") = false := by kernel_rfl
theorem nm81 : (Tryz.f81.name == "runtime.NumGoroutine") = false := by kernel_rfl
theorem nm82 : (Tryz.f82.name == "runtime.NumGoroutine") = false := by kernel_rfl
theorem nm83 : (Tryz.f83.name == "runtime.NumGoroutine") = false := by kernel_rfl
theorem bd83 : Tryz.f83.body.isNone = false := by kernel_rfl
theorem nm100 : (Tryz.f100.name == "runtime.NumGoroutine") = false := by kernel_rfl
theorem bd100 : Tryz.f100.body.isNone = false := by kernel_rfl
theorem nm101 : (Tryz.f101.name == "runtime.NumGoroutine") = false := by kernel_rfl
theorem bd101 : Tryz.f101.body.isNone = false := by kernel_rfl
theorem nm102 : (Tryz.f102.name == "runtime.NumGoroutine") = false := by kernel_rfl
theorem bd102 : Tryz.f102.body.isNone = false := by kernel_rfl
theorem nm103 : (Tryz.f103.name == "runtime.NumGoroutine") = false := by kernel_rfl
theorem bd103 : Tryz.f103.body.isNone = false := by kernel_rfl
theorem nm104 : (Tryz.f104.name == "runtime.NumGoroutine") = false := by kernel_rfl
theorem bd104 : Tryz.f104.body.isNone = false := by kernel_rfl
theorem nm105 : (Tryz.f105.name == "runtime.NumGoroutine") = false := by kernel_rfl
theorem nm106 : (Tryz.f106.name == "runtime.NumGoroutine") = false := by kernel_rfl
theorem bd106 : Tryz.f106.body.isNone = false := by kernel_rfl
theorem nm107 : (Tryz.f107.name == "runtime.NumGoroutine") = false := by kernel_rfl
theorem bd107 : Tryz.f107.body.isNone = false := by kernel_rfl
theorem nm108 : (Tryz.f108.name == "runtime.NumGoroutine") = false := by kernel_rfl
theorem bd108 : Tryz.f108.body.isNone = false := by kernel_rfl
theorem nm109 : (Tryz.f109.name == "runtime.NumGoroutine") = false := by kernel_rfl
theorem bd109 : Tryz.f109.body.isNone = false := by kernel_rfl
theorem nm110 : (Tryz.f110.name == "runtime.NumGoroutine") = false := by kernel_rfl
theorem bd110 : Tryz.f110.body.isNone = false := by kernel_rfl
theorem nm111 : (Tryz.f111.name == "runtime.NumGoroutine") = false := by kernel_rfl
theorem bd111 : Tryz.f111.body.isNone = false := by kernel_rfl
theorem nm112 : (Tryz.f112.name == "runtime.NumGoroutine") = false := by kernel_rfl
theorem bd112 : Tryz.f112.body.isNone = false := by kernel_rfl
theorem nm113 : (Tryz.f113.name == "runtime.NumGoroutine") = false := by kernel_rfl
theorem bd113 : Tryz.f113.body.isNone = false := by kernel_rfl
theorem nm114 : (Tryz.f114.name == "runtime.NumGoroutine") = false := by kernel_rfl
theorem bd114 : Tryz.f114.body.isNone = false := by kernel_rfl
theorem nm115 : (Tryz.f115.name == "runtime.NumGoroutine") = false := by kernel_rfl
theorem bd115 : Tryz.f115.body.isNone = false := by kernel_rfl
theorem nm116 : (Tryz.f116.name == "runtime.NumGoroutine") = false := by kernel_rfl
theorem nm117 : (Tryz.f117.name == "runtime.NumGoroutine") = false := by kernel_rfl
theorem bd117 : Tryz.f117.body.isNone = false := by kernel_rfl
theorem nm118 : (Tryz.f118.name == "runtime.NumGoroutine") = false := by kernel_rfl
theorem bd118 : Tryz.f118.body.isNone = false := by kernel_rfl
theorem nm119 : (Tryz.f119.name == "runtime.NumGoroutine") = false := by kernel_rfl
theorem bd119 : Tryz.f119.body.isNone = false := by kernel_rfl
theorem nm120 : (Tryz.f120.name == "runtime.NumGoroutine") = false := by kernel_rfl
theorem nm121 : (Tryz.f121.name == "runtime.NumGoroutine") = false := by kernel_rfl
theorem bd121 : Tryz.f121.body.isNone = false := by kernel_rfl
theorem nm122 : (Tryz.f122.name == "runtime.NumGoroutine") = false := by kernel_rfl
theorem bd122 : Tryz.f122.body.isNone = false := by kernel_rfl
theorem nm123 : (Tryz.f123.name == "runtime.NumGoroutine") = false := by kernel_rfl
theorem nm124 : (Tryz.f124.name == "runtime.NumGoroutine") = false := by kernel_rfl
theorem bd124 : Tryz.f124.body.isNone = false := by kernel_rfl
theorem nm126 : (Tryz.f126.name == "runtime.NumGoroutine") = false := by kernel_rfl
theorem bd126 : Tryz.f126.body.isNone = false := by kernel_rfl
theorem nm127 : (Tryz.f127.name == "runtime.NumGoroutine") = false := by kernel_rfl
theorem bd127 : Tryz.f127.body.isNone = false := by kernel_rfl
theorem nm128 : (Tryz.f128.name == "runtime.NumGoroutine") = false := by kernel_rfl
theorem bd128 : Tryz.f128.body.isNone = false := by kernel_rfl
theorem nm129 : (Tryz.f129.name == "runtime.NumGoroutine") = false := by kernel_rfl
theorem bd129 : Tryz.f129.body.isNone = false := by kernel_rfl
theorem nm130 : (Tryz.f130.name == "runtime.NumGoroutine") = false := by kernel_rfl
theorem bd130 : Tryz.f130.body.isNone = false := by kernel_rfl
theorem mem_of_memB {L : List Nat} {f : Nat} (h : memB L f = true) : f ∈ L := by
  unfold memB at h
  obtain ⟨x, hx, e⟩ := List.any_eq_true.1 h
  rw [Nat.eq_of_beq_eq_true e]
  exact hx
theorem rows_all {S : Sc} (hq : S.q = false) (X : Prg S Tryz.prog) (hg : ∀ g, Tryz.prog.globals.findIdx? (·.name == "internal/bytealg.MaxLen") = some g → S.b g) {f : Nat} {fn : Func} (hf : memB LK f = true) (h : Tryz.prog.funcs[f]? = some fn) : RowIs S fn := by
  have hf := mem_of_memB hf
  simp only [LK, List.mem_cons, List.not_mem_nil, or_false] at hf
  rcases hf with rfl | rfl | rfl | rfl | rfl | rfl | rfl | rfl | rfl | rfl | rfl | rfl | rfl | rfl | rfl | rfl | rfl | rfl | rfl | rfl | rfl | rfl | rfl | rfl | rfl | rfl | rfl | rfl | rfl | rfl | rfl | rfl | rfl | rfl | rfl | rfl | rfl | rfl | rfl | rfl | rfl | rfl | rfl | rfl | rfl | rfl | rfl | rfl | rfl | rfl | rfl | rfl | rfl | rfl | rfl | rfl | rfl | rfl | rfl | rfl | rfl | rfl | rfl | rfl | rfl | rfl | rfl | rfl | rfl | rfl | rfl | rfl | rfl | rfl | rfl | rfl | rfl | rfl | rfl | rfl | rfl | rfl | rfl
  · rw [Tryz.func6] at h; cases h; exact rowIs_body nm6 bd6
  · rw [Tryz.func8] at h; cases h; exact rowIs_body nm8 bd8
  · rw [Tryz.func10] at h; cases h; exact rowIs_body nm10 bd10
  · rw [Tryz.func11] at h; cases h; exact rowIs_body nm11 bd11
  · rw [Tryz.func12] at h; cases h; exact rowIs_body nm12 bd12
  · rw [Tryz.func15] at h; cases h; exact rowIs_body nm15 bd15
  · rw [Tryz.func17] at h; cases h; exact rowIs_body nm17 bd17
  · rw [Tryz.func18] at h; cases h; exact rowIs_body nm18 bd18
  · rw [Tryz.func27] at h; cases h; exact rowIs_body nm27 bd27
  · rw [Tryz.func7] at h; cases h; exact rowIs_body nm7 bd7
  · rw [Tryz.func13] at h; cases h; exact rowIs_body nm13 bd13
  · rw [Tryz.func14] at h; cases h; exact rowIs_body nm14 bd14
  · rw [Tryz.func19] at h; cases h; exact rowIs_body nm19 bd19
  · rw [Tryz.func20] at h; cases h; exact rowIs_body nm20 bd20
  · rw [Tryz.func21] at h; cases h; exact rowIs_body nm21 bd21
  · rw [Tryz.func22] at h; cases h; exact rowIs_body nm22 bd22
  · rw [Tryz.func28] at h; cases h; exact rowIs_body nm28 bd28
  · rw [Tryz.func29] at h; cases h; exact rowIs_body nm29 bd29
  · rw [Tryz.func30] at h; cases h; exact rowIs_body nm30 bd30
  · rw [Tryz.func31] at h; cases h; exact rowIs_row nm31 rown31 rowf31 (row_marked hq _ (fun _ => trivial))
  · rw [Tryz.func32] at h; cases h; exact rowIs_row nm32 rown32 rowf32 (row_mark0 hq _ trivial)
  · rw [Tryz.func33] at h; cases h; exact rowIs_row nm33 rown33 rowf33 (row_mark0 hq _ trivial)
  · rw [Tryz.func44] at h; cases h; exact rowIs_row nm44 rown44 rowf44 (row_marked hq _ (fun _ => trivial))
  · rw [Tryz.func49] at h; cases h; exact rowIs_row nm49 rown49 rowf49 (row_same)
  · rw [Tryz.func50] at h; cases h; exact rowIs_body nm50 bd50
  · rw [Tryz.func51] at h; cases h; exact rowIs_body nm51 bd51
  · rw [Tryz.func52] at h; cases h; exact rowIs_body nm52 bd52
  · rw [Tryz.func58] at h; cases h; exact rowIs_row nm58 rown58 rowf58 (row_loadT X _)
  · rw [Tryz.func59] at h; cases h; exact rowIs_body nm59 bd59
  · rw [Tryz.func60] at h; cases h; exact rowIs_body nm60 bd60
  · rw [Tryz.func61] at h; cases h; exact rowIs_body nm61 bd61
  · rw [Tryz.func62] at h; cases h; exact rowIs_body nm62 bd62
  · rw [Tryz.func63] at h; cases h; exact rowIs_body nm63 bd63
  · rw [Tryz.func64] at h; cases h; exact rowIs_body nm64 bd64
  · rw [Tryz.func65] at h; cases h; exact rowIs_body nm65 bd65
  · rw [Tryz.func66] at h; cases h; exact rowIs_row nm66 rown66 rowf66 (row_storeT X)
  · rw [Tryz.func67] at h; cases h; exact rowIs_body nm67 bd67
  · rw [Tryz.func68] at h; cases h; exact rowIs_body nm68 bd68
  · rw [Tryz.func69] at h; cases h; exact rowIs_body nm69 bd69
  · rw [Tryz.func70] at h; cases h; exact rowIs_row nm70 rown70 rowf70 (row_casT X _)
  · rw [Tryz.func71] at h; cases h; exact rowIs_body nm71 bd71
  · rw [Tryz.func72] at h; cases h; exact rowIs_row nm72 rown72 rowf72 (row_update X (fun _ _ _ => av_intArith) _ _)
  · rw [Tryz.func73] at h; cases h; exact rowIs_body nm73 bd73
  · rw [Tryz.func74] at h; cases h; exact rowIs_body nm74 bd74
  · rw [Tryz.func75] at h; cases h; exact rowIs_body nm75 bd75
  · rw [Tryz.func76] at h; cases h; exact rowIs_row nm76 rown76 rowf76 (row_canSpin)
  · rw [Tryz.func77] at h; cases h; exact rowIs_row nm77 rown77 rowf77 (row_nothing)
  · rw [Tryz.func78] at h; cases h; exact rowIs_row nm78 rown78 rowf78 (row_die _ (fun _ => trivial))
  · rw [Tryz.func79] at h; cases h; exact rowIs_row nm79 rown79 rowf79 (row_nano)
  · rw [Tryz.func80] at h; cases h; exact rowIs_row nm80 rown80 rowf80 (row_semacquire hq)
  · rw [Tryz.func81] at h; cases h; exact rowIs_row nm81 rown81 rowf81 (row_die _ (fun _ => trivial))
  · rw [Tryz.func82] at h; cases h; exact rowIs_row nm82 rown82 rowf82 (row_semrelease hq)
  · rw [Tryz.func83] at h; cases h; exact rowIs_body nm83 bd83
  · rw [Tryz.func100] at h; cases h; exact rowIs_body nm100 bd100
  · rw [Tryz.func101] at h; cases h; exact rowIs_body nm101 bd101
  · rw [Tryz.func102] at h; cases h; exact rowIs_body nm102 bd102
  · rw [Tryz.func103] at h; cases h; exact rowIs_body nm103 bd103
  · rw [Tryz.func104] at h; cases h; exact rowIs_body nm104 bd104
  · rw [Tryz.func105] at h; cases h; exact rowIs_row nm105 rown105 rowf105 (row_makeNoZero X _ _)
  · rw [Tryz.func106] at h; cases h; exact rowIs_body nm106 bd106
  · rw [Tryz.func107] at h; cases h; exact rowIs_body nm107 bd107
  · rw [Tryz.func108] at h; cases h; exact rowIs_body nm108 bd108
  · rw [Tryz.func109] at h; cases h; exact rowIs_body nm109 bd109
  · rw [Tryz.func110] at h; cases h; exact rowIs_body nm110 bd110
  · rw [Tryz.func111] at h; cases h; exact rowIs_body nm111 bd111
  · rw [Tryz.func112] at h; cases h; exact rowIs_body nm112 bd112
  · rw [Tryz.func113] at h; cases h; exact rowIs_body nm113 bd113
  · rw [Tryz.func114] at h; cases h; exact rowIs_body nm114 bd114
  · rw [Tryz.func115] at h; cases h; exact rowIs_body nm115 bd115
  · rw [Tryz.func116] at h; cases h; exact rowIs_row nm116 rown116 rowf116 (row_count)
  · rw [Tryz.func117] at h; cases h; exact rowIs_body nm117 bd117
  · rw [Tryz.func118] at h; cases h; exact rowIs_body nm118 bd118
  · rw [Tryz.func119] at h; cases h; exact rowIs_body nm119 bd119
  · rw [Tryz.func120] at h; cases h; exact rowIs_row nm120 rown120 rowf120 (row_index hg)
  · rw [Tryz.func121] at h; cases h; exact rowIs_body nm121 bd121
  · rw [Tryz.func122] at h; cases h; exact rowIs_body nm122 bd122
  · rw [Tryz.func123] at h; cases h; exact rowIs_row nm123 rown123 rowf123 (row_indexByte)
  · rw [Tryz.func124] at h; cases h; exact rowIs_body nm124 bd124
  · rw [Tryz.func126] at h; cases h; exact rowIs_body nm126 bd126
  · rw [Tryz.func127] at h; cases h; exact rowIs_body nm127 bd127
  · rw [Tryz.func128] at h; cases h; exact rowIs_body nm128 bd128
  · rw [Tryz.func129] at h; cases h; exact rowIs_body nm129 bd129
  · rw [Tryz.func130] at h; cases h; exact rowIs_body nm130 bd130
theorem rows_pure {S : Sc} {f : Nat} {fn : Func} (hf : memB LP f = true) (h : Tryz.prog.funcs[f]? = some fn) : RowIs S fn := by
  have hf := mem_of_memB hf
  simp only [LP, List.mem_cons, List.not_mem_nil, or_false] at hf
  rcases hf with rfl | rfl | rfl | rfl | rfl | rfl | rfl | rfl | rfl | rfl
  · rw [Tryz.func6] at h; cases h; exact rowIs_body nm6 bd6
  · rw [Tryz.func8] at h; cases h; exact rowIs_body nm8 bd8
  · rw [Tryz.func10] at h; cases h; exact rowIs_body nm10 bd10
  · rw [Tryz.func11] at h; cases h; exact rowIs_body nm11 bd11
  · rw [Tryz.func12] at h; cases h; exact rowIs_body nm12 bd12
  · rw [Tryz.func13] at h; cases h; exact rowIs_body nm13 bd13
  · rw [Tryz.func15] at h; cases h; exact rowIs_body nm15 bd15
  · rw [Tryz.func17] at h; cases h; exact rowIs_body nm17 bd17
  · rw [Tryz.func18] at h; cases h; exact rowIs_body nm18 bd18
  · rw [Tryz.func27] at h; cases h; exact rowIs_body nm27 bd27
end Go.Proofs.YtacimedkchjfnaaGreat
end

section
/-! This program's types: zero values, methods, no float. -/
namespace Go.Proofs.YtacimedkchjfnaaGreat
set_option linter.unusedSimpArgs false
set_option linter.unusedVariables false
open Go.Conc

def zero1 : Value → Bool
  | .agg cs => cs.all clB
  | v => clB v
def zeroB : Value → Bool
  | .tuple cs => cs.all zero1
  | v => zero1 v
theorem cl_of_zero1 {S : Sc} {v : Value} (h : zero1 v = true) : Cl S v := by
  unfold zero1 at h
  split at h
  · exact .agg _ fun x hx => cl_of_B (Array.all_eq_true_iff_forall_mem.1 h x hx)
  · exact cl_of_B h
theorem cl_of_zeroB {S : Sc} {v : Value} (h : zeroB v = true) : Cl S v := by
  unfold zeroB at h
  split at h
  · exact .tuple _ fun x hx => cl_of_zero1 (Array.all_eq_true_iff_forall_mem.1 h x hx)
  · exact cl_of_zero1 h
def descB : TypeDesc → Bool
  | .float _ | .complex _ => false
  | _ => true
def typeB (L : List Nat) (N : List (List Nat)) (i : TypeInfo) : Bool :=
  (i.methods.all fun m => !nameB N m.name || match m.func with | some (f, _) => memB L f | none => true) && (match i.zero with | some v => zeroB v | none => true) && descB i.desc
theorem types_ok : (Tryz.prog.types.all (typeB LK NK)) = true := by kernel_rfl

/-- What is asked of a type's row. -/
structure TyOk (L : List Nat) (N : List (List Nat)) (i : TypeInfo) : Prop where
  meth : ∀ m ∈ i.methods, nameB N m.name = true → ∀ f b, m.func = some (f, b) → memB L f = true
  zero : ∀ v, i.zero = some v → ∀ S, Cl S v
  desc : descB i.desc = true
theorem tyOk_of_B {L : List Nat} {N : List (List Nat)} {i : TypeInfo} (h : typeB L N i = true) : TyOk L N i := by
  unfold typeB at h
  rw [Bool.and_eq_true, Bool.and_eq_true] at h
  refine ⟨fun m hm hn f b hf => ?_, fun v hv => ?_, h.2⟩
  · have := Array.all_eq_true_iff_forall_mem.1 h.1.1 m hm
    rw [hn, hf] at this
    exact this
  · have := h.1.2
    rw [hv] at this
    exact fun S => cl_of_zeroB this
theorem tyOk_word {L : List Nat} {N : List (List Nat)} {d : TypeDesc} {s : String} {z : Value} {c : Bool} {n : Nat} (hd : descB d = true) (hz : ∀ S, Cl S z) : TyOk L N (Made.word d s z c n) :=
  ⟨fun m hm => by simp [Made.word] at hm, fun v hv => by simp [Made.word] at hv; subst hv; exact hz, hd⟩
end Go.Proofs.YtacimedkchjfnaaGreat
end

section
/-! Types that are reckoned, not listed. -/
namespace Go.Proofs.YtacimedkchjfnaaGreat
set_option linter.unusedSimpArgs false
set_option linter.unusedVariables false
open Go.Conc

section
variable {L : List Nat} {N : List (List Nat)}

def stepVal {β : Type} : ForInStep β → β
  | .done b => b
  | .yield b => b
theorem opt_forIn {α β : Type} {f : α → β → Option (ForInStep β)} {I : β → Prop} (hf : ∀ a b r, I b → f a b = some r → I (stepVal r)) : ∀ (l : List α) (b b' : β), I b → forIn l b f = some b' → I b'
  | [], b, b', hb, h => by rw [List.forIn_nil] at h; cases h; exact hb
  | a :: l, b, b', hb, h => by
    rw [List.forIn_cons] at h
    obtain ⟨r, hr, h⟩ := Option.bind_eq_some_iff.1 h
    have := hf a b r hb hr
    cases r with
    | done c => cases h; exact this
    | yield c => exact opt_forIn hf l c b' this h
theorem struct_ok {info : TypeId → Option TypeInfo} (hinfo : ∀ t i, info t = some i → TyOk L N i) {fs : Array Field} {i : TypeInfo} (h : Made.reckonStruct info fs = some i) : TyOk L N i := by
  unfold Made.reckonStruct at h
  simp only [Option.bind_eq_bind, Option.bind_eq_some_iff, Option.pure_def] at h
  obtain ⟨a, ha, h⟩ := h
  rw [← Array.forIn_toList] at ha
  have hI := opt_forIn (I := fun s => ∀ z, s.2.2.2.2.2.2.2.1 = some z → ∀ S, ClA S z) (fun f s r hs hr => by
    obtain ⟨j, hj, hr⟩ := Option.bind_eq_some_iff.1 hr
    have hz : ∀ z (c : Prop) [Decidable c], (if c then none else s.2.2.2.2.2.2.2.1.bind fun x => j.zero.bind fun y => some (x ++ y.cells)) = some z → ∀ S, ClA S z := by
      intro z c _ e S
      split at e
      · cases e
      · obtain ⟨x, hx, e⟩ := Option.bind_eq_some_iff.1 e
        obtain ⟨y, hy, e⟩ := Option.bind_eq_some_iff.1 e
        cases e
        exact (hs x hx S).append ((hinfo _ _ hj).zero y hy S).cells
    split at hr
    · cases hr
    · split at hr
      · cases hr
      · split at hr
        · obtain ⟨tag, htag, hr⟩ := Option.bind_eq_some_iff.1 hr
          split at hr <;> (cases hr; exact fun z e => hz z _ e)
        · obtain ⟨tag, htag, hr⟩ := Option.bind_eq_some_iff.1 hr
          split at hr <;> (cases hr; exact fun z e => hz z _ e)) _ _ _ (by intro z e; cases e; exact fun S => ClA.empty) ha
  have fin : ∀ v, (a.2.2.2.2.2.2.2.1.map Value.agg) = some v → ∀ S, Cl S v := by
    intro v hv S
    obtain ⟨z, hz, rfl⟩ := Option.map_eq_some_iff.1 hv
    exact .agg _ (hI z hz S)
  split at h <;> (cases h; exact ⟨by simp, fin, rfl⟩)
theorem reckon_ok {info : TypeId → Option TypeInfo} (hinfo : ∀ t i, info t = some i → TyOk L N i) {d : TypeDesc} {i : TypeInfo} (h : Made.reckon info d = some i) : TyOk L N i := by
  cases d with
  | struct fs => exact struct_ok hinfo h
  | pointer e =>
    simp only [Made.reckon, Option.bind_eq_bind, Option.bind_eq_some_iff, Option.pure_def] at h
    obtain ⟨a, ha, h⟩ := h
    split at h
    · cases h
    · split at h
      · cases h
      · obtain ⟨s, hs, h⟩ := Option.bind_eq_some_iff.1 h
        cases h; exact tyOk_word rfl fun S => .ptr0
    · obtain ⟨s, hs, h⟩ := Option.bind_eq_some_iff.1 h
      cases h; exact tyOk_word rfl fun S => .ptr0
  | slice e =>
    simp only [Made.reckon, Option.bind_eq_bind, Option.bind_eq_some_iff, Option.pure_def] at h
    obtain ⟨a, ha, s, hs, h⟩ := h
    cases h; exact tyOk_word rfl fun S => .slice0 _ _
  | map k e =>
    simp only [Made.reckon, Option.bind_eq_bind, Option.bind_eq_some_iff, Option.pure_def] at h
    obtain ⟨a, ha, s, hs, a', ha', s', hs', h⟩ := h
    cases h; exact tyOk_word rfl fun S => .map0
  | chan d e =>
    simp only [Made.reckon, Option.bind_eq_bind, Option.bind_eq_some_iff, Option.pure_def] at h
    obtain ⟨a, ha, s, hs, h⟩ := h
    cases h; exact tyOk_word rfl fun S => .chan0
  | func ps rs v =>
    simp only [Made.reckon, Option.bind_eq_bind, Option.bind_eq_some_iff, Option.pure_def] at h
    obtain ⟨s, hs, h⟩ := h
    cases h; exact tyOk_word rfl fun S => .nilFunc
  | array n e =>
    simp only [Made.reckon, Option.bind_eq_bind, Option.bind_eq_some_iff, Option.pure_def] at h
    obtain ⟨j, hj, s, hs, h⟩ := h
    cases h
    have hj' := hinfo _ _ hj
    refine ⟨by simp, fun v hv S => ?_, rfl⟩
    dsimp only at hv
    split at hv
    · cases hv
    · split at hv
      · cases hv; exact .agg _ (by simp)
      · obtain ⟨z, hz, rfl⟩ := Option.map_eq_some_iff.1 hv
        refine .agg _ fun x hx => ?_
        obtain ⟨y, hy, hxy⟩ := Array.mem_flatten.1 hx
        rw [Array.mem_replicate] at hy
        rw [hy.2] at hxy
        exact (hj'.zero z hz S).cells x hxy
  | _ => simp [Made.reckon] at h
end
end Go.Proofs.YtacimedkchjfnaaGreat
end

section
/-! This program: all that is asked of it. -/
namespace Go.Proofs.YtacimedkchjfnaaGreat
set_option linter.unusedSimpArgs false
set_option linter.unusedVariables false
open Go.Conc

theorem table_ok {t : TypeId} {i : TypeInfo} (h : Tryz.prog.types[t]? = some i) : TyOk LK NK i := tyOk_of_B (Array.all_eq_true_iff_forall_mem.1 types_ok i (Array.mem_of_getElem? h))
theorem infoAt_ok {T : Tables} {L : List Nat} {N : List (List Nat)} (hT : ∀ (t : TypeId) i, T.types[t]? = some i → TyOk L N i) : ∀ (f : Nat) (t : TypeId) (i : TypeInfo), Made.infoAt T f t = some i → TyOk L N i := by
  intro f
  induction f with
  | zero => intro t i h; cases h
  | succ f ih =>
    intro t i h
    unfold Made.infoAt at h
    split at h
    · exact hT _ _ h
    · obtain ⟨d, hd, h⟩ := Option.bind_eq_some_iff.1 h
      exact reckon_ok (fun t i h => ih t i h) h
theorem info_of {T : Tables} {L : List Nat} {N : List (List Nat)} (hT : ∀ (t : TypeId) i, T.types[t]? = some i → TyOk L N i) {t : TypeId} {i : TypeInfo} (h : T.info? t = some i) : TyOk L N i := by
  unfold Tables.info? at h
  split at h
  · exact hT _ _ h
  · exact infoAt_ok hT _ _ _ h
theorem info_ok {t : TypeId} {i : TypeInfo} (h : Tryz.prog.info? t = some i) : TyOk LK NK i := info_of (fun _ _ h => table_ok h) h
theorem code_of {P : Program} {L : List Nat} {N : List (List Nat)} {f : Nat} {fn : Func} {c : Code} (h : funcB P L N f = true) (hfn : P.funcs[f]? = some fn) (hc : fn.body = some c) : codeB P L N f c = true := by
  unfold funcB at h
  rw [hfn] at h
  simp only [hc] at h
  exact h
theorem desc_ok {t : TypeId} {d : TypeDesc} (h : Tryz.prog.underlying t = some d) : descB d = true := by
  unfold Program.underlying at h
  split at h
  · obtain ⟨i, hi, rfl⟩ := Option.map_eq_some_iff.1 h
    exact (info_ok hi).desc
  · rename_i i hn hi
    cases h
    exact (info_ok hi).desc
  · cases h
theorem noFloat : NoFloat Tryz.prog := ⟨fun t k h => (by have := desc_ok h; cases this), fun t k h => (by have := desc_ok h; cases this)⟩
theorem globals_size : Tryz.prog.globals.size = 1 := by kernel_rfl
theorem maxLen_at : Tryz.prog.globals.findIdx? (·.name == "internal/bytealg.MaxLen") = some 0 := by kernel_rfl
theorem prg {B : Nat → Prop} {K : Addr → Prop} {q : Bool} {L : List Nat} {N : List (List Nat)} (h1 : B 1) : Prg (scOf B K q L N) Tryz.prog :=
  ⟨fun t i v hi hv => (info_ok hi).zero v hv _, by rw [globals_size]; exact h1⟩
def resB (f : Nat) : ResultVar → Bool
  | .tmp t => !dK f t
  | .cell t _ => !dK f t
theorem res_ok : ((List.range Tryz.prog.funcs.size).all fun f => match Tryz.prog.funcs[f]? with | some fn => fn.results.all (resB f) | none => true) = true := by kernel_rfl
theorem kP : KP Tryz.prog := ⟨by kernel_rfl, by kernel_rfl, fun j h => by
  have e : (Tryz.prog.info? 9).all (fun j => Nat.beq j.size 1) = true := by kernel_rfl
  rw [h] at e
  exact Nat.eq_of_beq_eq_true e, ⟨Tryz.f10, Tryz.func10, nm10, bd10⟩⟩
/-- ALL THAT IS ASKED OF THE PROGRAM, at whatever set of blocks that holds the one package variable's and the handles'. -/
theorem prgC {B : Nat → Prop} {K : Addr → Prop} (h0 : B 0) (h1 : B 1) : PrgC (scOf B K false LK NK) Tryz.prog where
  toPrg := prg h1
  kind := by
    rintro fn (⟨f, rfl, _⟩ | ⟨n, rfl, _⟩)
    · exact .inl ⟨f, rfl⟩
    · exact .inr ⟨n, rfl⟩
  row := by
    rintro f fn (⟨g, e, hg⟩ | ⟨n, e, _⟩) hfn
    · cases e
      exact rows_all rfl (prg h1) (fun g h => by rw [maxLen_at] at h; cases h; exact h0) hg hfn
    · cases e
  meth := by
    rintro t i m f b hi hm (⟨g, e, _⟩ | ⟨n, e, hn⟩) hf
    · cases e
    · cases e
      exact .inl ⟨f, rfl, (info_ok hi).meth m hm hn f b hf⟩
  nofloat := noFloat
  code := by
    rintro f fn c (⟨g, e, hg⟩ | ⟨n, e, _⟩) hfn hc
    · cases e
      exact code_ok kP h0 (code_of (List.all_eq_true.1 funcs_ok f (mem_of_memB hg)) hfn hc)
    · cases e
  res := by
    intro f fn t hfn h
    have hlt : f < Tryz.prog.funcs.size := (Array.getElem?_eq_some_iff.1 hfn).1
    have := List.all_eq_true.1 res_ok f (List.mem_range.2 hlt)
    rw [hfn] at this
    rcases h with h | ⟨ty, h⟩
    · have := Array.all_eq_true_iff_forall_mem.1 this _ h
      show dK f t = false
      simpa [resB] using this
    · have := Array.all_eq_true_iff_forall_mem.1 this _ h
      show dK f t = false
      simpa [resB] using this
/-- .. where nothing is said. -/
theorem prgQ {B : Nat → Prop} {K : Addr → Prop} (h0 : B 0) (h1 : B 1) : PrgC (scOf B K true LP []) Tryz.prog where
  toPrg := prg h1
  kind := by
    rintro fn (⟨f, rfl, _⟩ | ⟨n, rfl, _⟩)
    · exact .inl ⟨f, rfl⟩
    · exact .inr ⟨n, rfl⟩
  row := by
    rintro f fn (⟨g, e, hg⟩ | ⟨n, e, _⟩) hfn
    · cases e
      exact rows_pure hg hfn
    · cases e
  meth := by
    rintro t i m f b hi hm (⟨g, e, _⟩ | ⟨n, e, hn⟩) hf
    · cases e
    · cases hn
  nofloat := noFloat
  code := by
    rintro f fn c (⟨g, e, hg⟩ | ⟨n, e, _⟩) hfn hc
    · cases e
      exact code_ok kP h0 (code_of (List.all_eq_true.1 funcs_pure f (mem_of_memB hg)) hfn hc)
    · cases e
  res := (prgC (B := B) (K := K) h0 h1).res
end Go.Proofs.YtacimedkchjfnaaGreat
end
