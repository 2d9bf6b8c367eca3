/- Part 14 of the proof: A6, A7, A8. -/
import Derived.Test.YtacimedkchjfnaaGreatV13
section
/-! What the operations ask for: the rows of the functions without a body. -/
namespace Go.Proofs.YtacimedkchjfnaaGreat
set_option linter.unusedSimpArgs false
set_option linter.unusedVariables false

/-- A row: whatever it is handed. -/
def RowAv (S : Sc) (P : Program) (e : Array Value → Sem Value) : Prop := ∀ vs, ClA S vs → Av S P (Cl S) (e vs)

section
variable {S : Sc} {P : Program}

theorem ClA.getOpt {vs : Array Value} (h : ClA S vs) {i : Nat} {v : Value} (hv : vs[i]? = some v) : Cl S v := h.get hv
theorem cl_none : Cl S (.tuple #[]) := .tuple _ (by simp)
theorem row_marked (hq : S.q = false) (m : Addr → Mark) (hm : ∀ a, NoSaid (m a)) : RowAv S P (Extern.Race.marked m) := by
  intro vs hv
  unfold Extern.Race.marked Extern.Race.at_
  split
  · exact av_bind (av_bind (av_mark ⟨fun h => (by rw [hq] at h; cases h), hm _⟩ (av_pure cl_none)))
  · exact av_stuck _
theorem row_mark0 (hq : S.q = false) (m : Mark) (hm : NoSaid m) : RowAv S P (fun _ => do mark m; pure Extern.Race.none_) := fun vs _ => av_bind (av_mark ⟨fun h => (by rw [hq] at h; cases h), hm⟩ (av_pure cl_none))
theorem av_count {φ : Addr × Int → Prop} {vs : Array Value} (hv : ClA S vs) (h : ∀ a n, S.b (Prod.fst (a, n) : Addr).block → φ (a, n)) : Av S P φ (Extern.Sync.count vs) := by
  unfold Extern.Sync.count
  split
  · rename_i a ha
    have hb := (hv.get ha).ptr_inv
    refine av_bind (av_load hb fun v _ => ?_)
    split
    · exact av_pure (h _ _ hb)
    · exact av_unsupported _
  · exact av_stuck _
theorem row_semacquire (hq : S.q = false) : RowAv S P Extern.Sync.semacquire := by
  intro vs hv
  unfold Extern.Sync.semacquire
  refine av_bind (av_mark ⟨fun h => (by rw [hq] at h; cases h), trivial⟩ (av_bind (av_count hv fun a n ha => ?_)))
  dsimp only
  split
  · exact av_bind trivial
  · exact av_bind (av_store ha (.int _ _) (av_bind (av_mark ⟨fun h => (by rw [hq] at h; cases h), trivial⟩ (av_pure cl_none))))
theorem row_semrelease (hq : S.q = false) : RowAv S P Extern.Sync.semrelease := by
  intro vs hv
  unfold Extern.Sync.semrelease
  refine av_bind (av_mark ⟨fun h => (by rw [hq] at h; cases h), trivial⟩ (av_bind (av_count hv fun a n ha => ?_)))
  exact av_then _ av_intArith fun v hv => av_bind (av_store ha hv (av_bind (av_mark ⟨fun h => (by rw [hq] at h; cases h), trivial⟩ (av_pure cl_none))))
theorem row_canSpin : RowAv S P Extern.Sync.canSpin := by
  intro vs hv
  unfold Extern.Sync.canSpin
  obtain ⟨l⟩ := vs
  rcases l with _ | ⟨x, _ | ⟨rest, l⟩⟩
  · exact av_stuck _
  · cases x with
    | int k i =>
      show Av S P (Cl S) (if i ≥ 4 then _ else _)
      split
      · exact av_pure (.bool _)
      · exact av_bind (av_choose fun _ => av_pure (.bool _))
    | _ => exact av_stuck _
  · (first | exact av_stuck _ | (cases x <;> exact av_stuck _))
theorem row_nothing : RowAv S P Extern.Sync.nothing := fun vs _ => av_pure cl_none
theorem row_die (m : String → Halt) (hm : ∀ s, HaltOk S (m s)) : RowAv S P (Extern.Sync.die m) := by
  intro vs hv
  unfold Extern.Sync.die
  obtain ⟨l⟩ := vs
  rcases l with _ | ⟨x, _ | ⟨rest, l⟩⟩
  · exact av_stuck _
  · cases x with
    | string s =>
      show Av S P (Cl S) (match String.fromUTF8? s with | some m' => Sem.halt (m _) | none => unsupported _)
      split
      · exact hm _
      · exact av_unsupported _
    | _ => exact av_stuck _
  · (first | exact av_stuck _ | (cases x <;> exact av_stuck _))
theorem av_read {φ : Value → Prop} {t : Extern.Atomic.T} {a : Addr} (ha : S.b a.block) (h : ∀ v, Cl S v → φ v) : Av S P φ (Extern.Atomic.read t a) := by
  unfold Extern.Atomic.read
  refine av_bind (av_load ha fun v hv => ?_)
  split
  · split
    · exact av_pure (h _ hv)
    · exact av_unsupported _
  · exact av_pure (h _ hv)
  · exact av_pure (h _ hv)
  · exact av_unsupported _
theorem row_loadT (X : Prg S P) (t : Extern.Atomic.T) : RowAv S P (Extern.Atomic.loadT t) := by
  intro vs hv
  unfold Extern.Atomic.loadT
  obtain ⟨l⟩ := vs
  rcases l with _ | ⟨x, _ | ⟨rest, l⟩⟩
  · exact av_stuck _
  · exact av_bind (av_asAddr X (hv _ (by simp)) fun a ha => av_read ha fun _ h => h)
  · (first | exact av_stuck _ | (cases x <;> exact av_stuck _))
theorem row_storeT (X : Prg S P) : RowAv S P Extern.Atomic.storeT := by
  intro vs hv
  unfold Extern.Atomic.storeT
  obtain ⟨l⟩ := vs
  rcases l with _ | ⟨x, _ | ⟨y, _ | ⟨rest, l⟩⟩⟩
  · exact av_stuck _
  · (first | exact av_stuck _ | (cases x <;> exact av_stuck _))
  · exact av_bind (av_asAddr X (hv _ (by simp)) fun a ha => av_bind (av_store ha (hv _ (by simp)) (av_pure cl_none)))
  · (first | exact av_stuck _ | (cases x <;> exact av_stuck _))
theorem av_anyM {α : Type} {f : α → Sem Bool} : ∀ {l : List α}, (∀ a ∈ l, Av S P (fun _ => True) (f a)) → Av S P (fun _ => True) (l.anyM f)
  | [], _ => av_pure trivial
  | a :: l, h => by
    unfold List.anyM
    refine av_then _ (h a (by simp)) fun b _ => ?_
    split
    · exact av_pure trivial
    · exact av_anyM fun x hx => h x (by simp [hx])
theorem av_touchesFrozen {φ : Bool → Prop} {a : Addr} (ha : S.b a.block) (h : ∀ b, φ b) : Av S P φ (Extern.Atomic.touchesFrozen a) := by
  unfold Extern.Atomic.touchesFrozen
  refine av_bind (av_viewAt ha (av_frozen ha h) fun b u hb => av_bind (av_typeInfo fun i _ => ?_))
  dsimp only
  split
  · exact av_bind (av_unsupported _)
  · exact av_mono (fun b _ => h b) (av_anyM fun i _ => av_frozen hb fun _ => trivial)
theorem row_casT (X : Prg S P) (t : Extern.Atomic.T) : RowAv S P (Extern.Atomic.casT t) := by
  intro vs hv
  unfold Extern.Atomic.casT
  obtain ⟨l⟩ := vs
  rcases l with _ | ⟨x, _ | ⟨y, _ | ⟨z, _ | ⟨rest, l⟩⟩⟩⟩
  · exact av_stuck _
  · (first | exact av_stuck _ | (cases x <;> exact av_stuck _))
  · (first | exact av_stuck _ | (cases x <;> exact av_stuck _))
  · have hy : Cl S y := hv _ (by simp)
    have hz : Cl S z := hv _ (by simp)
    refine av_bind (av_asAddr X (hv _ (by simp)) fun a ha => av_bind (av_touchesFrozen ha fun b => ?_))
    dsimp only
    split
    · exact av_bind (av_unsupported _)
    · refine av_bind (av_read ha fun v hv' => ?_)
      simp only [Array.getLit, List.getElem_toArray, List.getElem_cons_zero, List.getElem_cons_succ]
      repeat' (first | exact av_pure (.bool _) | exact .bool _ | exact av_bind (av_unsupported _) | exact av_unsupported _ | exact av_bind (av_stuck _) | exact av_stuck _ | refine av_samePointer hv' hy (fun _ => ?_) | refine av_store ha hz ?_ | refine av_bind ?_ | refine av_pure ?_ | split | dsimp only)
  · (first | exact av_stuck _ | (cases x <;> exact av_stuck _))
theorem row_update (X : Prg S P) {f : IntKind → Int → Int → Sem Value} (hf : ∀ k x y, Av S P (Cl S) (f k x y)) (k : IntKind) (b : Bool) : RowAv S P (Extern.Atomic.update f k b) := by
  intro vs hv
  unfold Extern.Atomic.update
  obtain ⟨l⟩ := vs
  rcases l with _ | ⟨x, _ | ⟨y, _ | ⟨rest, l⟩⟩⟩
  · exact av_stuck _
  · (first | exact av_stuck _ | (cases x <;> exact av_stuck _))
  · refine av_bind (av_asAddr X (hv _ (by simp)) fun a ha => av_bind (av_read ha fun v hv' => av_bind (av_asInt' fun n => av_bind (av_asInt' fun m => av_then _ (hf _ _ _) fun w hw => av_bind (av_store ha hw (av_pure ?_))))))
    split
    · exact hw
    · exact hv'
  · (first | exact av_stuck _ | (cases x <;> exact av_stuck _))
theorem row_nano : RowAv S P Extern.OsHooks.nano := by
  intro vs hv
  unfold Extern.OsHooks.nano Extern.OsHooks.clock
  refine av_bind (av_bind (av_sys prompt_clock fun r => ?_))
  split
  · exact av_pure (av_pure (.int _ _))
  · exact av_stuck _
theorem row_same : RowAv S P Extern.AbiNoEscape.same := by
  intro vs hv
  unfold Extern.AbiNoEscape.same
  obtain ⟨l⟩ := vs
  rcases l with _ | ⟨x, _ | ⟨rest, l⟩⟩
  · exact av_stuck _
  · exact av_pure (hv _ (by simp))
  · (first | exact av_stuck _ | (cases x <;> exact av_stuck _))
theorem av_bytesOf {φ : ByteArray → Prop} {v : Value} (hv : Cl S v) (h : ∀ s, φ s) : Av S P φ (Extern.Bytes.bytesOf v) := by
  unfold Extern.Bytes.bytesOf
  split
  · exact av_pure (h _)
  · exact av_pure (h _)
  · exact av_bytesOfLoad h _ _ _ hv.slice_inv
  · exact av_stuck _
theorem av_asByte {φ : UInt8 → Prop} {v : Value} (h : ∀ s, φ s) : Av S P φ (Extern.Bytes.asByte v) := by
  unfold Extern.Bytes.asByte
  split
  · exact av_pure (h _)
  · exact av_stuck _
theorem row_count : RowAv S P Extern.BytealgCount.count := by
  intro vs hv
  unfold Extern.BytealgCount.count
  obtain ⟨l⟩ := vs
  rcases l with _ | ⟨x, _ | ⟨y, _ | ⟨rest, l⟩⟩⟩
  · exact av_stuck _
  · (first | exact av_stuck _ | (cases x <;> exact av_stuck _))
  · exact av_bind (av_bytesOf (hv _ (by simp)) fun s => av_bind (av_asByte fun c => av_pure (.int _ _)))
  · (first | exact av_stuck _ | (cases x <;> exact av_stuck _))
theorem row_indexByte : RowAv S P Extern.BytealgIndexByte.indexByte := by
  intro vs hv
  unfold Extern.BytealgIndexByte.indexByte
  obtain ⟨l⟩ := vs
  rcases l with _ | ⟨x, _ | ⟨y, _ | ⟨rest, l⟩⟩⟩
  · exact av_stuck _
  · (first | exact av_stuck _ | (cases x <;> exact av_stuck _))
  · refine av_bind (av_bytesOf (hv _ (by simp)) fun s => av_bind (av_asByte fun c => ?_))
    split <;> exact av_pure (.int _ _)
  · (first | exact av_stuck _ | (cases x <;> exact av_stuck _))
theorem row_index (hg : ∀ g, P.globals.findIdx? (·.name == "internal/bytealg.MaxLen") = some g → S.b g) : RowAv S P Extern.BytealgIndex.index := by
  intro vs hv
  unfold Extern.BytealgIndex.index
  obtain ⟨l⟩ := vs
  rcases l with _ | ⟨x, _ | ⟨y, _ | ⟨rest, l⟩⟩⟩
  · exact av_stuck _
  · (first | exact av_stuck _ | (cases x <;> exact av_stuck _))
  · refine av_bind (av_bytesOf (hv _ (by simp)) fun s => av_bind (av_bytesOf (hv _ (by simp)) fun t => ?_))
    have hml : ∀ (φ : Int → Prop), (∀ n, φ n) → Av S P φ Extern.BytealgIndex.maxLen := by
      intro φ h
      unfold Extern.BytealgIndex.maxLen globalAddr
      refine av_bind (av_bind (av_program ?_))
      split
      · exact av_pure (av_bind (av_load (hg _ ‹_›) fun v _ => av_asInt' h))
      · exact av_stuck _
    have fin : Av S P (Cl S) (match (List.range (s.size + 1 - t.size)).find? fun i => s.extract i (i + t.size) == t with
        | some i => pure (goInt i)
        | none => pure (goInt (-1)) : Sem Value) := by
      split <;> exact av_pure (.int _ _)
    repeat' (first | exact fin | exact .int _ _ | exact av_bind (av_unsupported _) | exact av_unsupported _ | refine hml _ (fun _ => ?_) | refine av_bind ?_ | refine av_pure ?_ | split | dsimp only)
  · (first | exact av_stuck _ | (cases x <;> exact av_stuck _))
theorem row_makeNoZero (X : Prg S P) (ps rs : Array TypeId) : RowAv S P (Extern.BytealgMakeNoZero.makeNoZero ps rs) := by
  intro vs hv
  have hd : ∀ (n t : Nat) (acc : Array Value), ClA S acc → ClA S (Extern.BytealgMakeNoZero.digits n t acc) := by
    intro n
    induction n with
    | zero => intro t acc h; exact h
    | succ n ih => intro t acc h; exact ih _ _ (h.push (.int _ _))
  have main : ∀ n : Int, Av S P (Cl S) (Extern.BytealgMakeNoZero.makeNoZero ps rs #[.int .i64 n]) := by
    intro n
    unfold Extern.BytealgMakeNoZero.makeNoZero
    split
    · refine av_bind (av_underlying fun d => ?_)
      split
      · split
        · exact av_bind (av_runtimePanic X _)
        · exact av_bind (av_choose fun c => av_bind (av_askRoom (av_bind (av_choose fun b => av_bind (av_newRow (hd _ _ _ ClA.empty) fun r hr => av_pure (.slice _ _ _ hr))))))
      · exact av_stuck _
    · exact av_stuck _
  obtain ⟨l⟩ := vs
  rcases l with _ | ⟨x, _ | ⟨y, l⟩⟩
  · unfold Extern.BytealgMakeNoZero.makeNoZero; (first | exact av_stuck _ | (split <;> exact av_stuck _))
  · cases x with
    | int k n =>
      cases k with
      | i64 => exact main n
      | _ => unfold Extern.BytealgMakeNoZero.makeNoZero; (first | exact av_stuck _ | (split <;> exact av_stuck _))
    | _ => unfold Extern.BytealgMakeNoZero.makeNoZero; (first | exact av_stuck _ | (split <;> exact av_stuck _))
  · unfold Extern.BytealgMakeNoZero.makeNoZero
    cases x with
    | int k n => cases k <;> (first | exact av_stuck _ | (split <;> exact av_stuck _))
    | _ => (first | exact av_stuck _ | (split <;> exact av_stuck _))
end
end Go.Proofs.YtacimedkchjfnaaGreat
end

section
/-! What a whole operation asks for. -/
namespace Go.Proofs.YtacimedkchjfnaaGreat
set_option linter.unusedSimpArgs false
set_option linter.unusedVariables false

/-- What is asked of the program's functions that values may name: those without a body ask within S; a method of an allowed name is an allowed function. -/
structure PrgF (S : Sc) (P : Program) : Prop extends Prg S P where
  kind : ∀ fn, S.f fn → (∃ f, fn = .func f) ∨ (∃ n, fn = .method n)
  row : ∀ f fn, S.f (.func f) → P.funcs[f]? = some fn → (fn.name == "runtime.NumGoroutine") = false ∧ (fn.body.isNone = true → Extern.findNext fn = none ∧ ∃ e, Extern.find fn = some e ∧ RowAv S P e)
  meth : ∀ t i m f b, P.info? t = some i → m ∈ i.methods → S.f (.method m.name) → m.func = some (f, b) → S.f (.func f)

/-- What a step may go on with: only the plain kinds. -/
inductive ClN (S : Sc) (P : Program) : Next → Prop
  | value (v : Value) (h : Cl S v) : ClN S P (.value v)
  | skip : ClN S P .skip
  | enter (f : FuncId) (args : Array Value) (hf : S.f (.func f)) (hb : ∃ fn, P.funcs[f]? = some fn ∧ fn.body.isNone = false) (h : ClA S args) : ClN S P (.enter f args)
  | defer (fn : Fn) (cap args : Array Value) (hf : S.f fn) (hc : ClA S cap) (h : ClA S args) : ClN S P (.defer ⟨.fn fn cap, args⟩)
  | deferNil (args : Array Value) (h : ClA S args) : ClN S P (.defer ⟨.nil, args⟩)

section
variable {S : Sc} {P : Program}

theorem av_callFunc (X : PrgF S P) {f : FuncId} {vs : Array Value} (hf : S.f (.func f)) (hv : ClA S vs) : Av S P (ClN S P) (callFunc f vs) := by
  unfold callFunc
  refine av_bind (av_program ?_)
  split
  · exact av_stuck _
  · rename_i fn hfn
    obtain ⟨hn, hrow⟩ := X.row f fn hf hfn
    rw [hn]
    simp only [Bool.false_eq_true, if_false]
    cases hb : fn.body.isNone with
    | true =>
      obtain ⟨h1, e, h2, h3⟩ := hrow hb
      simp only [if_true, h1, h2]
      exact av_bind (av_mark ⟨fun _ => trivial, trivial⟩ (av_then _ (h3 vs hv) fun v hv => av_pure (.value _ hv)))
    | false =>
      simp only [Bool.false_eq_true, if_false]
      exact av_pure (.enter _ _ hf ⟨fn, hfn, hb⟩ hv)

inductive ClP (S : Sc) : Place → Prop
  | val (v : Value) (h : Cl S v) : ClP S (.val v)
  | var (a : Addr) (h : S.b a.block) : ClP S (.var a)
theorem av_get {t : TypeId} {x : Place} (h : ClP S x) : Av S P (Cl S) (x.get t) := by
  cases h with
  | val v h => exact av_pure h
  | var a h => exact av_loadVar h fun _ h => h
theorem av_follow (X : Prg S P) : ∀ (l : List FieldStep) (t : TypeId) (x : Place), ClP S x → Av S P (fun r => ClP S r.2) (follow l t x)
  | [], t, x, h => av_pure h
  | s :: rest, t, x, h => by
    unfold follow
    refine av_bind (av_underlying fun d => ?_)
    split
    · split
      · split
        · exact av_then _ (av_get h) fun v hv => av_bind (av_asAddr X hv fun a ha => av_bind (av_fieldPlace ha fun b hb => av_follow X rest _ _ (.var _ hb)))
        · cases h with
          | var a ha => exact av_bind (av_fieldPlace ha fun b hb => av_follow X rest _ _ (.var _ hb))
          | val v hv =>
            cases v with
            | agg cs => exact av_bind (av_part hv.agg_inv fun w hw => av_follow X rest _ _ (.val _ hw))
            | _ => exact av_stuck _
      · exact av_stuck _
    · exact av_stuck _
theorem av_receiverAt (X : Prg S P) {t : TypeId} {x : Place} {b : Bool} {w : Option String} (h : ClP S x) : Av S P (Cl S) (receiverAt t x b w) := by
  unfold receiverAt
  refine av_bind (av_underlying fun d => ?_)
  split
  · exact av_get h
  · refine av_then _ (av_get h) fun v hv => ?_
    have fin : ∀ v, Cl S v → Av S P (Cl S) (do loadVar ‹TypeId› (← asAddr v) : Sem Value) := fun v hv => av_bind (av_asAddr X hv fun a ha => av_loadVar ha fun _ h => h)
    dsimp only
    split
    · refine av_bind (av_mono (fun v hv => av_bind (av_asAddr X hv fun a ha => av_loadVar ha fun _ h => h)) ?_)
      unfold Builtin.ssaWrapNilChk_
      cases v with
      | pointer a =>
        cases a with
        | some a => exact av_pure hv
        | none =>
          show Av S P (Cl S) (do let _ ← choose _; _)
          repeat' (first | exact av_runtimePanic X _ | exact av_bind (av_runtimePanic X _) | exact av_stuck _ | exact av_unsupported _ | refine av_choose (fun _ => ?_) | refine av_underlying (fun _ => ?_) | refine av_typeInfo (fun _ _ => ?_) | refine av_bind ?_ | refine av_pure ?_ | split | dsimp only)
      | _ => exact av_stuck _
    · exact av_bind (av_pure (av_bind (av_asAddr X hv fun a ha => av_loadVar ha fun _ h => h)))
  · cases h with
    | var a ha => exact av_pure (.ptr _ ha)
  · exact av_stuck _
  · exact av_get h
theorem av_method (X : PrgF S P) : ∀ (n : Nat) (t : TypeId) (v : Value) (name : String), S.f (.method name) → Cl S v → Av S P (fun r => S.f (.func r.1) ∧ Cl S r.2) (method n t v name)
  | 0, _, _, _, _, _ => av_unsupported _
  | n + 1, t, v, name, hn, hv => by
    unfold method
    refine av_bind (av_typeInfo fun i hi => ?_)
    split
    · rename_i m hm
      have hmem : m ∈ i.methods := Array.mem_of_find?_eq_some hm
      have hname : m.name = name := by simpa using Array.find?_some hm
      refine av_then _ (av_follow X.toPrg _ _ _ (.val _ hv)) fun r hr => ?_
      obtain ⟨xt, x⟩ := r
      dsimp only at hr ⊢
      split
      · refine av_then _ (av_get hr) fun w hw => ?_
        split
        · exact av_method X n _ _ _ hn hw.iface_inv
        · exact av_runtimePanic X.toPrg _
        · exact av_stuck _
      · rename_i f b hf
        exact av_then _ (av_receiverAt X.toPrg hr) fun w hw => av_pure ⟨X.meth _ _ _ _ _ hi hmem (hname ▸ hn) hf, hw⟩
    · exact av_stuck _
theorem av_callMethod (X : PrgF S P) {v : Value} {name : String} {vs : Array Value} (hn : S.f (.method name)) (hv : Cl S v) (hvs : ClA S vs) : Av S P (ClN S P) (callMethod v name vs) := by
  unfold callMethod
  split
  · refine av_bind (av_program (av_then _ (av_method X _ _ _ _ hn hv.iface_inv) fun r hr => ?_))
    obtain ⟨f, w⟩ := r
    exact av_callFunc X hr.1 ((ClA.one hr.2).append hvs)
  · exact av_runtimePanic X.toPrg _
  · exact av_stuck _
/-- A call that is deferred, or made: what it names. -/
inductive ClD (S : Sc) : Deferred → Prop
  | fn (fn : Fn) (cap args : Array Value) (hf : S.f fn) (hc : ClA S cap) (h : ClA S args) : ClD S ⟨.fn fn cap, args⟩
  | nil (args : Array Value) (h : ClA S args) : ClD S ⟨.nil, args⟩
theorem av_invoke (X : PrgF S P) {d : Deferred} (hd : ClD S d) : Av S P (ClN S P) (invoke d.target d.args) := by
  cases hd with
  | fn fn cap args hf hc h =>
    rcases X.kind fn hf with ⟨f, rfl⟩ | ⟨n, rfl⟩
    · exact av_callFunc X hf (h.append hc)
    · unfold invoke
      dsimp only
      split
      · exact av_callMethod X hf (h.get ‹_›) (h.extract _ _)
      · exact av_stuck _
  | nil args h =>
    unfold invoke
    exact av_runtimePanic X.toPrg _
theorem av_ofValue {v : Value} {vs : Array Value} (hv : Cl S v) (hvs : ClA S vs) : Av S P (ClD S) (Deferred.ofValue v vs) := by
  unfold Deferred.ofValue
  split
  · obtain ⟨h1, h2, h3⟩ := hv.func_inv
    exact av_pure (.fn _ _ _ h1 h3 (h2.append hvs))
  · exact av_pure (.nil _ hvs)
  · exact av_stuck _

/-- The builtins that occur. -/
def builtinOk : Builtin → Bool
  | .append | .cap | .copy | .len | .max | .min | .unsafeSliceData | .unsafeString => true
  | _ => false
theorem av_builtin (X : Prg S P) {b : Builtin} {ts : Array TypeId} {t : TypeId} {cs : Array Bool} {vs : Array Value} (hb : builtinOk b = true) (hv : ClA S vs) : Av S P (ClN S P) (builtin b ts t cs vs) := by
  have v : ∀ s : Sem Value, Av S P (Cl S) s → Av S P (ClN S P) (do pure (.value (← s)) : Sem Next) := fun s h => av_then _ h fun v hv => av_pure (.value _ hv)
  cases b <;> first
    | (exfalso; revert hb; decide)
    | exact v _ (av_append X hv)
    | exact v _ (av_cap hv)
    | exact v _ (av_copy hv)
    | exact v _ (av_len hv)
    | exact v _ (av_max hv)
    | exact v _ (av_min hv)
    | exact v _ (av_unsafeSliceData hv)
    | exact v _ (av_unsafeString X hv)

/-- An operand that names nothing outside. -/
inductive OperandOk (S : Sc) : Operand → Prop
  | tmp (t : Tmp) : OperandOk S (.tmp t)
  | const (v : Value) (h : Cl S v) : OperandOk S (.const v)
  | global (g : Nat) (h : S.b g) : OperandOk S (.global g)
  | func (f : FuncId) (h : S.f (.func f)) : OperandOk S (.func f)

/-- An operation of the kinds that are looked at here. -/
def OpOk (S : Sc) (P : Program) (o : Op) : Prop :=
  (∀ x ∈ o.operands, OperandOk S x) ∧ match o with
  | .move _ | .assign _ | .pick .. | .alloc _ | .box .. | .build .. | .buildSlice .. | .load .. | .store .. | .binOp .. | .unOp .. | .makeInterface .. | .makeSlice .. | .slice .. | .fieldAddr ..
  | .field .. | .indexAddr .. | .index .. | .range .. | .typeAssert .. | .extract .. | .panic _ | .nilCheck _ => True
  | .convert _ d _ => ∀ k, P.underlying d ≠ some (.float k)
  | .next _ s => s = true
  | .makeFunc fn _ _ => S.f fn
  | .call c => match c.callee with
    | .value _ => True
    | .invoke _ n => S.f (.method n)
    | .builtin b => builtinOk b = true
  | .defer c => match c.callee with
    | .value _ => True
    | .invoke _ n => S.f (.method n)
    | .builtin _ => False
  | _ => False

theorem av_nilAhead : ∀ (n : Nat) (t : TypeId) (v : Value) (name : String), Cl S v → Av S P (fun _ => True) (nilAhead n t v name) := by
  have fb : ∀ (l : List FieldStep) (t : TypeId) (x : Option Value), (∀ v, x = some v → Cl S v) → Av S P (fun r => ∀ t y, r = .ok (t, y) → ∀ v, y = some v → Cl S v) (followBlind l t x) := by
    intro l
    induction l with
    | nil => intro t x h; exact av_pure (by rintro t y h' v rfl; cases h'; exact h v rfl)
    | cons s rest ih =>
      intro t x h
      unfold followBlind
      refine av_bind (av_underlying fun d => ?_)
      split
      · split
        · split
          · exact av_pure (by rintro t y h' v rfl; cases h')
          · exact ih _ _ (by simp)
          · exact av_stuck _
          · exact av_pure (by rintro t y h' v rfl; cases h')
          · exact av_bind (av_part (h _ rfl).agg_inv fun w hw => ih _ _ (by rintro v e; cases e; exact hw))
          · exact av_stuck _
          · exact ih _ _ (by simp)
        · exact av_stuck _
      · exact av_stuck _
  intro n
  induction n with
  | zero => intros; exact av_pure trivial
  | succ n ih =>
    intro t v name hv
    unfold nilAhead
    refine av_bind (av_typeInfo fun i hi => ?_)
    split
    · refine av_then _ (fb _ _ _ (by rintro w e; cases e; exact hv)) fun r hr => ?_
      split
      · exact av_pure trivial
      · rename_i xt x
        have hx := hr _ _ rfl
        split
        · exact ih _ _ _ (hx _ rfl).iface_inv
        · exact av_pure trivial
        · exact av_stuck _
        · exact av_pure trivial
        · exact av_pure trivial
        · refine av_bind (av_underlying fun d => ?_)
          split <;> exact av_pure trivial
    · exact av_stuck _

theorem av_resolve {ρ : Operand → Value} {c : Call} {t : TypeId} (hρ : ∀ x ∈ c.operands, Cl S (ρ x)) (hn : ∀ r n, c.callee = .invoke r n → S.f (.method n)) (hb : ∀ b, c.callee ≠ .builtin b) : Av S P (ClD S) (resolve ρ c t) := by
  unfold resolve
  have ha : ClA S (c.args.map ρ) := by
    intro x hx
    obtain ⟨y, hy, rfl⟩ := Array.mem_map.1 hx
    exact hρ y (by unfold Call.operands; simp [hy])
  dsimp only
  split
  · exact absurd ‹_› (hb _)
  · rename_i r n h
    refine av_pure (.fn _ _ _ (hn _ _ h) ClA.empty ((ClA.one (hρ r ?_)).append ha))
    unfold Call.operands
    simp [h]
  · rename_i f h
    refine av_ofValue (hρ f ?_) ha
    unfold Call.operands
    simp [h]

set_option maxHeartbeats 1000000 in
/-- A WHOLE OPERATION. -/
theorem av_execOp (X : PrgF S P) {ρ : Operand → Value} {o : Oper} (ho : OpOk S P o.op) (hρ : ∀ x ∈ o.op.operands, Cl S (ρ x)) : Av S P (ClN S P) (execOp ρ o) := by
  have v : ∀ s : Sem Value, Av S P (Cl S) s → Av S P (ClN S P) (do pure (.value (← s)) : Sem Next) := fun s h => av_then _ h fun v hv => av_pure (.value _ hv)
  have u : ∀ s : Sem Unit, Av S P (fun _ => True) s → Av S P (ClN S P) (do s; pure .skip : Sem Next) := fun s h => av_then _ h fun v hv => av_pure .skip
  have Y := X.toPrg
  obtain ⟨-, ho⟩ := ho
  unfold execOp
  generalize hop : o.op = op at ho hρ
  cases op with
  | move x => exact av_pure (.value _ (hρ _ (by simp [Op.operands])))
  | assign x => exact av_pure (.value _ (hρ _ (by simp [Op.operands])))
  | pick c a b =>
    refine av_bind (av_asBool fun t => ?_)
    split
    · exact av_pure (.value _ (hρ _ (by simp [Op.operands])))
    · exact av_pure (.value _ (hρ _ (by simp [Op.operands])))
  | alloc e => exact v _ (av_alloc Y e)
  | box e x => exact v _ (av_box Y e (hρ _ (by simp [Op.operands])))
  | build t ps =>
    refine v _ (av_build Y ?_)
    intro p hp
    obtain ⟨⟨i, x⟩, hx, rfl⟩ := Array.mem_map.1 hp
    exact hρ x (by simp only [Op.operands]; simp; exact ⟨i, hx⟩)
  | buildSlice t n ps =>
    refine v _ (av_buildSlice Y ?_)
    intro p hp
    obtain ⟨⟨i, x⟩, hx, rfl⟩ := Array.mem_map.1 hp
    exact hρ x (by simp only [Op.operands]; simp; exact ⟨i, hx⟩)
  | load t a => exact v _ (av_loadAt (hρ _ (by simp [Op.operands])))
  | store t a x => exact u _ (av_storeAt (hρ _ (by simp [Op.operands])) (hρ _ (by simp [Op.operands])))
  | nilCheck x =>
    have hx := hρ x (by simp [Op.operands])
    dsimp only
    generalize ρ x = y at hx
    split
    · exact av_runtimePanic Y _
    · exact av_runtimePanic Y _
    · exact av_runtimePanic Y _
    · split
      · exact av_runtimePanic Y _
      · rename_i t w h
        refine av_bind (av_program (av_then _ (av_nilAhead _ _ _ _ ((hx.func_inv.2.1.get h).iface_inv)) fun r _ => ?_))
        split
        · exact av_bind (av_unsupported _)
        · exact av_pure (.value _ hx)
      · exact av_pure (.value _ hx)
    · exact av_pure (.value _ hx)
  | binOp b t x y yt => exact v _ (av_then _ (av_eqGuard (hρ _ (by simp [Op.operands])) (hρ _ (by simp [Op.operands]))) fun _ _ => av_binOp Y (hρ _ (by simp [Op.operands])) (hρ _ (by simp [Op.operands])))
  | unOp b t x => exact v _ (av_unary (hρ _ (by simp [Op.operands])))
  | convert s d x => exact v _ (av_convert (hρ _ (by simp [Op.operands])) ho)
  | makeInterface t x => exact v _ (av_makeInterface (hρ _ (by simp [Op.operands])))
  | makeFunc fn a b =>
    refine v _ (av_pure (.func _ _ _ ho ?_ ?_))
    · intro x hx
      obtain ⟨y, hy, rfl⟩ := Array.mem_map.1 hx
      exact hρ y (by simp [Op.operands, hy])
    · intro x hx
      obtain ⟨y, hy, rfl⟩ := Array.mem_map.1 hx
      exact hρ y (by simp [Op.operands, hy])
  | makeSlice t a b => exact v _ (av_makeSlice Y)
  | slice t x l h m => exact v _ (av_sliceAt Y (hρ _ (by simp [Op.operands])))
  | fieldAddr t x f => exact v _ (av_fieldAt (hρ _ (by simp [Op.operands])))
  | field t x f => exact v _ (av_field (hρ _ (by simp [Op.operands])))
  | indexAddr t x i => exact v _ (av_indexAt Y (hρ _ (by simp [Op.operands])))
  | index t x i => exact v _ (av_index Y (hρ _ (by simp [Op.operands])))
  | range t x => exact v _ (av_range (hρ _ (by simp [Op.operands])))
  | next x s => subst ho; exact v _ (av_next (hρ _ (by simp [Op.operands])))
  | typeAssert x t a c => exact v _ (av_typeAssert Y (hρ _ (by simp [Op.operands])))
  | extract x i => exact v _ (av_extract (hρ _ (by simp [Op.operands])))
  | panic x => exact v _ (av_panic Y (hρ _ (by simp [Op.operands])))
  | call c =>
    cases hc : c.callee with
    | value f =>
      refine av_then _ (av_resolve hρ (fun r n h => by rw [hc] at h; cases h) (fun b h => by rw [hc] at h; cases h)) fun d hd => av_invoke X hd
    | invoke r n =>
      simp only [hc] at ho
      refine av_then _ (av_resolve hρ (fun r n h => by rw [hc] at h; cases h; exact ho) (fun b h => by rw [hc] at h; cases h)) fun d hd => av_invoke X hd
    | builtin b =>
      simp only [hc] at ho
      dsimp only
      unfold resolve
      simp only [hc]
      refine av_bind (av_pure ?_)
      unfold invoke
      refine av_builtin Y ho ?_
      intro x hx
      obtain ⟨y, hy, rfl⟩ := Array.mem_map.1 hx
      exact hρ y (by simp [Op.operands, Call.operands, hy])
  | defer c =>
    have fin : ∀ d, ClD S d → Av S P (ClN S P) (pure (.defer d) : Sem Next) := by
      intro d hd
      cases hd with
      | fn fn cap args hf h1 h2 => exact av_pure (.defer _ _ _ hf h1 h2)
      | nil args h => exact av_pure (.deferNil _ h)
    cases hc : c.callee with
    | value f => exact av_then _ (av_resolve hρ (fun r n h => by rw [hc] at h; cases h) (fun b h => by rw [hc] at h; cases h)) fin
    | invoke r n =>
      simp only [hc] at ho
      exact av_then _ (av_resolve hρ (fun r n h => by rw [hc] at h; cases h; exact ho) (fun b h => by rw [hc] at h; cases h)) fin
    | builtin b => simp only [hc] at ho
  | _ => exact absurd ho (by simp)
end
end Go.Proofs.YtacimedkchjfnaaGreat
end

section
/-! The judgement holds of a run: what is asked lies within S; what is left outside S stands. -/
namespace Go.Proofs.YtacimedkchjfnaaGreat
set_option linter.unusedSimpArgs false
set_option linter.unusedVariables false

/-- S's own objects name S's blocks alone; whatever is new is S's. -/
structure CW (S : Sc) (w : World) : Prop where
  objs : ∀ r o, S.b r → w.heap[r]? = some o → ClO S o
  fresh : ∀ r, w.heap.size ≤ r → S.b r

/-- What a run leaves. -/
structure Keep (S : Sc) (w w' : World) : Prop where
  cw : CW S w'
  size : w.heap.size ≤ w'.heap.size
  rest : ∀ r, ¬ S.b r → w'.heap[r]? = w.heap[r]?
  output : w'.output = w.output

def LocLow (B : Nat) : Loc → Prop
  | .cell a => a.block < B
  | .obj r => r < B
  | _ => True
theorem LocLow.mono {B B' : Nat} (h : B ≤ B') : ∀ {l : Loc}, LocLow B l → LocLow B' l
  | .cell _, x | .obj _, x => Nat.lt_of_lt_of_le x h
  | .output, _ | .goroutines, _ | .mark _, _ => trivial
/-- An event of S's, the heap being of size B. -/
structure EvIn (S : Sc) (B : Nat) (e : Event) : Prop where
  cell : ∀ a, e.loc = .cell a → S.b a.block
  obj : ∀ r, e.loc = .obj r → S.b r
  quiet : S.q = true → ∀ m, e.loc = .mark m → QuietM m
  nosaid : ∀ m, e.loc = .mark m → NoSaid m
  low : LocLow B e.loc
theorem EvIn.mono {S : Sc} {B B' : Nat} (h : B ≤ B') {e : Event} (x : EvIn S B e) : EvIn S B' e := ⟨x.cell, x.obj, x.quiet, x.nosaid, x.low.mono h⟩
theorem lt_of_heap {w : World} {r : Nat} {o : Obj} (h : w.heap[r]? = some o) : r < w.heap.size := (Array.getElem?_eq_some_iff.1 h).1
theorem lt_of_cell {w : World} {a : Addr} {v : Value} (h : w.cell? a = some v) : a.block < w.heap.size := by
  unfold World.cell? at h
  split at h
  · exact lt_of_heap ‹_›
  · cases h

structure NoFloat (P : Program) : Prop where
  float : ∀ t k, P.underlying t ≠ some (.float k)
  complex : ∀ t k, P.underlying t ≠ some (.complex k)

section
variable {α : Type} {S : Sc} {P : Program}

theorem Keep.refl {w : World} (h : CW S w) : Keep S w w := ⟨h, Nat.le_refl _, fun _ _ => rfl, rfl⟩
theorem Keep.trans {a b c : World} (h : Keep S a b) (k : Keep S b c) : Keep S a c := ⟨k.cw, Nat.le_trans h.size k.size, fun r hr => (k.rest r hr).trans (h.rest r hr), k.output.trans h.output⟩
theorem keep_set {w : World} (h : CW S w) {r : Nat} {o : Obj} (hr : S.b r) (ho : ClO S o) : Keep S w { w with heap := w.heap.setIfInBounds r o } := by
  refine ⟨⟨fun k x hk hx => ?_, fun k hk => h.fresh k (by simpa using hk)⟩, by simp, fun k hk => ?_, rfl⟩
  · simp only [Array.getElem?_setIfInBounds] at hx
    split at hx
    · split at hx
      · cases hx; exact ho
      · cases hx
    · exact h.objs k x hk hx
  · simp only [Array.getElem?_setIfInBounds]
    rw [if_neg (by rintro rfl; exact hk hr)]
theorem keep_new {w : World} (h : CW S w) {o : Obj} (ho : ClO S o) : Keep S w { w with heap := w.heap.push o } := by
  refine ⟨⟨fun k x hk hx => ?_, fun k hk => h.fresh k (by simp at hk; omega)⟩, by simp, fun k hk => ?_, rfl⟩
  · simp only [Array.getElem?_push] at hx
    split at hx
    · cases hx; exact ho
    · exact h.objs k x hk hx
  · simp only [Array.getElem?_push]
    rw [if_neg (by rintro rfl; exact hk (h.fresh _ (Nat.le_refl _)))]
theorem modify_get {α : Type} (a : Array α) (i k : Nat) (f : α → α) : (a.modify i f)[k]? = if i = k then a[k]?.map f else a[k]? := by
  rw [Array.getElem?_modify]
theorem keep_modify {w : World} (h : CW S w) {r : Nat} {f : Obj → Obj} (hr : S.b r) (hf : ∀ o, ClO S o → ClO S (f o)) : Keep S w { w with heap := w.heap.modify r f } := by
  refine ⟨⟨fun k x hk hx => ?_, fun k hk => h.fresh k (by simpa using hk)⟩, by simp, fun k hk => ?_, rfl⟩
  · simp only [modify_get] at hx
    split at hx
    · obtain ⟨y, hy, rfl⟩ := Option.map_eq_some_iff.1 hx
      exact hf y (h.objs k y hk hy)
    · exact h.objs k x hk hx
  · simp only [modify_get]
    rw [if_neg (by rintro rfl; exact hk hr)]
theorem keep_setCell {w : World} (h : CW S w) {a : Addr} {v : Value} (ha : S.b a.block) (hv : Cl S v) : Keep S w (w.setCell a v) := by
  unfold World.setCell
  refine keep_modify h ha fun o ho => ?_
  cases ho with
  | cells c e f hc =>
    refine .cells _ _ _ ?_
    split
    · exact hc
    · exact hc.set hv _
  | stringIter s n => exact .stringIter _ _
  | view a t h => exact .view _ _ h
  | mapIter0 a b c => exact .mapIter0 _ _ _
  | number a l h => exact .number _ _ h
theorem keep_freeze {w : World} (h : CW S w) {a : Addr} {n : Nat} (ha : S.b a.block) : Keep S w (w.freeze a n) := by
  unfold World.freeze
  split
  · exact Keep.refl h
  · refine keep_modify h ha fun o ho => ?_
    cases ho with
    | cells c e f hc => exact .cells _ _ _ hc
    | stringIter s n => exact .stringIter _ _
    | view a t h => exact .view _ _ h
    | mapIter0 a b c => exact .mapIter0 _ _ _
    | number a l h => exact .number _ _ h
theorem cell_cl {w : World} (h : CW S w) {a : Addr} {v : Value} (ha : S.b a.block) (hv : w.cell? a = some v) : Cl S v := by
  unfold World.cell? at hv
  split at hv
  · rename_i c e f hc
    have := clO_cells (h.objs _ _ ha hc)
    split at hv
    · cases hv
    · exact this.get hv
  · cases hv
theorem plain_cl (N : NoFloat P) : ∀ (d : Nat) (t : TypeId) (o : Nat) (v : Value), plainCell P d t o = some v → Cl S v ∧ ∃ k n b, v = .int k n ∨ v = .bool b := by
  intro d
  induction d with
  | zero => intro t o v h; cases h
  | succ d ih =>
    intro t o v h
    unfold plainCell at h
    split at h
    · obtain ⟨f, _, hf⟩ := Array.exists_of_findSome?_eq_some h
      split at hf
      · exact ih _ _ _ hf
      · cases hf
    · dsimp only at h
      split at h
      · cases h
      · exact ih _ _ _ h
    · split at h
      · cases h; exact ⟨.bool _, .i8, 0, _, .inr rfl⟩
      · cases h
    · split at h
      · cases h; exact ⟨.int _ _, _, _, false, .inl rfl⟩
      · cases h
    · exact absurd ‹_› (N.float _ _)
    · exact absurd ‹_› (N.complex _ _)
    · cases h
theorem ofBytes_cl {v u : Value} (hv : Cl S v) {bs : List UInt8} (h : v.ofBytes bs = some u) : Cl S u := by
  cases hv <;> simp only [Value.ofBytes] at h <;> first | cases h | skip
  · split at h <;> first | (cases h; exact .bool _) | cases h
  · split at h
    · cases h; exact .int _ _
    · cases h
theorem seen_cl (N : NoFloat P) {w : World} {at_ k : Addr} {u : TypeId} {b : Bool} {r} (h : w.seen P at_ u k b = .ok r) :
    w.heap[at_.block]? = some (.cells r.1 r.2.1 r.2.2.1) ∧ Cl S r.2.2.2.2.1 := by
  unfold World.seen at h
  simp only [bind, Except.bind, pure, Except.pure, throw, throwThe, MonadExceptOf.throw] at h
  repeat' (split at h <;> try (first | (cases h; done)))
  all_goals (first | (cases h; done) | skip)
  all_goals
    simp only [Except.ok.injEq] at h
    subst h
    exact ⟨‹w.heap[at_.block]? = _›, (plain_cl N _ _ _ _ ‹plainCell P P.depth u k.off = _›).1⟩
theorem viewLoad_cl (N : NoFloat P) {w : World} {at_ k : Addr} {u : TypeId} {b : Bool} {r} (h : w.viewLoad P at_ u k b = .ok r) : Cl S r.1 ∧ (∀ a ∈ r.2, a.block = at_.block) ∧ at_.block < w.heap.size := by
  unfold World.viewLoad at h
  simp only [bind, Except.bind, pure, Except.pure, throw, throwThe, MonadExceptOf.throw] at h
  split at h
  · cases h
  · rename_i r1 h1
    have hs := seen_cl (S := S) N h1
    split at h
    · cases h
      exact ⟨ofBytes_cl hs.2 ‹_›, (by simp; intro a x y z _ e; subst e; rfl), lt_of_heap hs.1⟩
    · cases h
theorem foldE_cl {β : Type} {f : Array Value → β → Except String (Array Value)} (hf : ∀ c x c', ClA S c → f c x = .ok c' → ClA S c') : ∀ (l : List β) (c c' : Array Value), ClA S c → l.foldlM f c = .ok c' → ClA S c'
  | [], c, c', hc, h => by simp [pure, Except.pure] at h; subst h; exact hc
  | x :: l, c, c', hc, h => by
    rw [List.foldlM_cons] at h
    simp only [bind, Except.bind] at h
    split at h
    · cases h
    · exact foldE_cl hf l _ _ (hf _ _ _ hc ‹_›) h
theorem viewStore_cl (N : NoFloat P) {w : World} (hw : CW S w) {at_ k : Addr} (ha : S.b at_.block) {u : TypeId} {v : Value} {b : Bool} {r} (h : w.viewStore P at_ u k v b = .ok r) : Keep S w r.1 ∧ (∀ a ∈ r.2, a.block = at_.block) ∧ at_.block < w.heap.size := by
  unfold World.viewStore at h
  simp only [bind, Except.bind, pure, Except.pure, throw, throwThe, MonadExceptOf.throw] at h
  split at h
  · cases h
  · split at h
    · cases h
    · rename_i r1 h1
      have hs := seen_cl (S := S) N h1
      have hc : ClA S r1.1 := clO_cells (hw.objs _ _ ha hs.1)
      repeat' (split at h <;> try (first | (cases h; done)))
      all_goals (first | (cases h; done) | skip)
      all_goals
        cases h
        refine ⟨keep_set hw ha (.cells _ _ _ (foldE_cl (fun c x c' hc h => ?_) _ _ _ hc ‹_›)), (by simp; intro a x y z _ e; subst e; rfl), lt_of_heap hs.1⟩
        repeat' (split at h <;> try (first | (cases h; done)))
        all_goals (first | (cases h; done) | skip)
        all_goals
          cases h
          exact hc.set (ofBytes_cl (hc.get ‹_›) ‹_›) _
/-- What comes of a run. -/
def Out (S : Sc) (w : World) (es : Array Event) (φ : α → Prop) : Result α × Array Event → Prop
  | (.ok a w', es') => φ a ∧ Keep S w w' ∧ ∀ e ∈ es', e ∈ es ∨ EvIn S w'.heap.size e
  | (.halt h w', es') => HaltOk S h ∧ Keep S w w' ∧ ∀ e ∈ es', e ∈ es ∨ EvIn S w'.heap.size e
theorem Out.next {w w' : World} {es es' : Array Event} {φ : α → Prop} {r : Result α × Array Event} (h : Out S w' es' φ r) (hk : Keep S w w') (he : ∀ e ∈ es', e ∈ es ∨ EvIn S w'.heap.size e) : Out S w es φ r := by
  have key : ∀ (B : Nat) (a : Array Event), w'.heap.size ≤ B → (∀ e ∈ a, e ∈ es' ∨ EvIn S B e) → ∀ e ∈ a, e ∈ es ∨ EvIn S B e := fun B a hB ha e hea => (ha e hea).elim (fun h => (he e h).imp id (·.mono hB)) .inr
  obtain ⟨r, es''⟩ := r
  cases r with
  | ok a w'' => exact ⟨h.1, hk.trans h.2.1, key _ _ h.2.1.size h.2.2⟩
  | halt x w'' => exact ⟨h.1, hk.trans h.2.1, key _ _ h.2.1.size h.2.2⟩
theorem ev_push {B : Nat} {es : Array Event} {e : Event} (he : EvIn S B e) : ∀ x ∈ es.push e, x ∈ es ∨ EvIn S B x := by
  intro x hx
  rcases Array.mem_push.1 hx with hx | rfl
  · exact .inl hx
  · exact .inr he
theorem ev_cell {B : Nat} {a : Addr} (ha : S.b a.block) (hB : a.block < B) (x y : Bool) : EvIn S B ⟨.cell a, x, y⟩ := ⟨fun b hb => by cases hb; exact ha, fun r hr => by (cases hr), fun _ m h => by (cases h), fun m h => by (cases h), hB⟩
theorem ev_obj {B : Nat} {r : Nat} (ha : S.b r) (hB : r < B) (x y : Bool) : EvIn S B ⟨.obj r, x, y⟩ := ⟨fun b hb => by (cases hb), fun r hr => by cases hr; exact ha, fun _ m h => by (cases h), fun m h => by (cases h), hB⟩
theorem ask_heap {β : Type} : ∀ (k : Ask β) (w : World), (w.ask k).2.heap = w.heap ∧ (w.ask k).2.output = w.output
  | .done a, w => ⟨rfl, rfl⟩
  | .ask what range k, w => by
    unfold World.ask
    dsimp only
    split
    · exact ask_heap _ _
    · exact ask_heap (k _) { w with drawn := w.drawn + 1 }
theorem sys_heap (w : World) (c : Sys) : (w.sys c).2.heap = w.heap ∧ (w.sys c).2.output = w.output := by
  unfold World.sys
  have := ask_heap (Kernel.perform c w.os) w
  split
  · exact ⟨rfl, rfl⟩
  · rename_i h
    rw [h] at this
    exact this
theorem keep_same {w w' : World} (h : CW S w) (hh : w'.heap = w.heap) (ho : w'.output = w.output) : Keep S w w' :=
  ⟨⟨fun r o hr hx => h.objs r o hr (by rw [← hh]; exact hx), fun r hr => h.fresh r (by rw [← hh]; exact hr)⟩, by rw [hh]; exact Nat.le_refl _, fun r _ => by rw [hh], ho⟩
theorem out_halt {w : World} {es : Array Event} {φ : α → Prop} {x : Halt} (hw : CW S w) (hx : HaltOk S x) : Out S w es φ (.halt x w, es) := ⟨hx, Keep.refl hw, fun e he => .inl he⟩
theorem noCell_ok {w : World} (hw : CW S w) {a : Addr} (ha : S.b a.block) {what : String} : HaltOk S (w.noCell a what) := by
  unfold World.noCell
  split
  · cases hw.objs _ _ ha ‹_›
  · trivial
  · trivial
theorem run_av (N : NoFloat P) {φ : α → Prop} : ∀ (s : Sem α) (w : World) (es : Array Event), CW S w → Av S P φ s → Out S w es φ (s.runT P w es) := by
  intro s
  induction s with
  | pure a => exact fun w es hw h => ⟨h, Keep.refl hw, fun e he => .inl he⟩
  | load m a k ih =>
    intro w es hw h
    simp only [Sem.runT]
    split
    · exact (ih _ w _ hw (h.2 _ (cell_cl hw h.1 ‹_›))).next (Keep.refl hw) (ev_push (ev_cell h.1 (lt_of_cell ‹_›) _ _))
    · split
      · rename_i v touched hf
        unfold World.farLoad at hf
        split at hf
        · rename_i at_ u hv
          have hat : S.b at_.block := by cases hw.objs _ _ h.1 hv; assumption
          split at hf
          · cases hf
            obtain ⟨h1, h2, h3⟩ := viewLoad_cl (S := S) N ‹_›
            refine (ih _ w _ hw (h.2 _ h1)).next (Keep.refl hw) ?_
            intro e he
            rcases Array.mem_append.1 he with he | he
            · exact .inl he
            · obtain ⟨b, hb, rfl⟩ := Array.mem_map.1 he
              exact .inr (ev_cell (by rw [h2 b (by simpa using hb)]; exact hat) (by rw [h2 b (by simpa using hb)]; exact h3) _ _)
          · cases hf
        · cases hf
      · rename_i x hx
        refine out_halt hw ?_
        unfold World.farLoad at hx
        split at hx
        · split at hx <;> cases hx
          trivial
        · injection hx with hx
          subst hx
          exact noCell_ok hw h.1
  | store m a v k ih =>
    intro w es hw h
    have main : Out S w es φ (match w.cell? a with
        | some _ => if w.frozen? a then (.halt (.unsupported (.unsafePointer "a write to bytes that a string shares")) w, es) else k.runT P (w.setCell a v) (es.push ⟨.cell a, true, m == .atomic⟩)
        | none => match w.farStore P a v (m == .atomic) with
          | .ok (w, touched) => k.runT P w (es ++ touched.toArray.map (⟨.cell ·, true, m == .atomic⟩))
          | .error h => (.halt h w, es)) := by
      split
      · split
        · exact out_halt hw (by trivial)
        · exact (ih _ _ (keep_setCell hw h.1 h.2.1).cw h.2.2).next (keep_setCell hw h.1 h.2.1) (ev_push (ev_cell h.1 (Nat.lt_of_lt_of_le (lt_of_cell ‹_›) (keep_setCell hw h.1 h.2.1).size) _ _))
      · split
        · rename_i w' touched hf
          unfold World.farStore at hf
          split at hf
          · rename_i at_ u hv
            have hat : S.b at_.block := by cases hw.objs _ _ h.1 hv; assumption
            split at hf
            · cases hf
              obtain ⟨h1, h2, h3⟩ := viewStore_cl N hw hat ‹_›
              refine (ih _ _ h1.cw h.2.2).next h1 ?_
              intro e he
              rcases Array.mem_append.1 he with he | he
              · exact .inl he
              · obtain ⟨b, hb, rfl⟩ := Array.mem_map.1 he
                exact .inr (ev_cell (by rw [h2 b (by simpa using hb)]; exact hat) (by rw [h2 b (by simpa using hb)]; exact Nat.lt_of_lt_of_le h3 h1.size) _ _)
            · cases hf
          · cases hf
        · rename_i x hx
          refine out_halt hw ?_
          unfold World.farStore at hx
          split at hx
          · split at hx <;> cases hx
            trivial
          · injection hx with hx
            subst hx
            exact noCell_ok hw h.1
    cases v <;> first | exact main | exact out_halt hw (by trivial)
  | new o k ih =>
    intro w es hw h
    exact (ih _ _ es (keep_new hw h.1).cw (h.2 _ (hw.fresh _ (Nat.le_refl _)))).next (keep_new hw h.1) fun e he => .inl he
  | shape r k ih => exact fun w es hw h => ih _ w es hw (h.2 _)
  | freeze a n k ih => exact fun w es hw h => (ih _ es (keep_freeze hw h.1).cw h.2).next (keep_freeze hw h.1) fun e he => .inl he
  | frozen a k ih => exact fun w es hw h => ih _ w es hw (h.2 _)
  | getObj r k ih =>
    intro w es hw h
    simp only [Sem.runT]
    split
    · exact out_halt hw (by trivial)
    · exact (ih _ w _ hw (h.2 _ (hw.objs _ _ h.1 ‹_›))).next (Keep.refl hw) (ev_push (ev_obj h.1 (lt_of_heap ‹_›) _ _))
    · exact out_halt hw (by trivial)
  | setObj r o k ih =>
    intro w es hw h
    simp only [Sem.runT]
    split
    · exact out_halt hw (by trivial)
    · exact (ih _ _ (keep_set hw h.1 h.2.1).cw h.2.2).next (keep_set hw h.1 h.2.1) (ev_push (ev_obj h.1 (Nat.lt_of_lt_of_le (lt_of_heap ‹_›) (keep_set hw h.1 h.2.1).size) _ _))
    · exact out_halt hw (by trivial)
  | choose q k ih =>
    intro w es hw h
    simp only [Sem.runT]
    split
    · exact ih _ w es hw (h _)
    · have hk : Keep S w { w with drawn := w.drawn + 1 } := keep_same hw rfl rfl
      exact (ih _ _ es hk.cw (h _)).next hk fun e he => .inl he
  | sys c k ih =>
    intro w es hw h
    have hk := keep_same hw (sys_heap w c).1 (sys_heap w c).2
    exact (ih _ _ _ hk.cw (h.2 _)).next hk (ev_push ⟨fun b hb => by (cases hb), fun r hr => by (cases hr), fun _ m h => by (cases h), fun m h => by (cases h), trivial⟩)
  | program k ih => exact fun w es hw h => ih _ w es hw h
  | mark m k ih => exact fun w es hw h => (ih w _ hw h.2).next (Keep.refl hw) (ev_push ⟨fun b hb => by (cases hb), fun r hr => by (cases hr), fun hq m' e => (by cases e; exact h.1.1 hq), fun m' e => (by cases e; exact h.1.2), trivial⟩)
  | halt x => exact fun w es hw h => out_halt hw h
end
end Go.Proofs.YtacimedkchjfnaaGreat
end
