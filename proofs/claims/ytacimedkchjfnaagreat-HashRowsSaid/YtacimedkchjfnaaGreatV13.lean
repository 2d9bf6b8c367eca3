/- Part 13 of the proof: A1, A2, A3, A4, A5. -/
import Derived.Test.YtacimedkchjfnaaGreatV12
section
/-! What the operations ask for: the helpers. -/
namespace Go.Proofs.YtacimedkchjfnaaGreat
set_option linter.unusedSimpArgs false
set_option linter.unusedVariables false

/-- What is asked of the program: its types' zero values name no block outside S; the types' handles lie in S. -/
structure Prg (S : Sc) (P : Program) : Prop where
  zero : ∀ t i v, P.info? t = some i → i.zero = some v → Cl S v
  handles : S.b P.globals.size

section
variable {α : Type} {S : Sc} {P : Program}

theorem av_map {β : Type} {φ : β → Prop} {f : α → β} {s : Sem α} (h : Av S P (fun a => φ (f a)) s) : Av S P φ (f <$> s) := by
  show Av S P φ (s >>= fun a => pure (f a))
  exact av_bind h
theorem av_zeroValue (X : Prg S P) {φ : Value → Prop} {t : TypeId} (h : ∀ v, Cl S v → φ v) : Av S P φ (zeroValue t) := by
  unfold zeroValue
  refine av_bind (av_typeInfo fun i hi => ?_)
  split
  · exact h _ (X.zero _ _ _ hi ‹_›)
  · exact av_unsupported _
theorem av_newRow {φ : Addr → Prop} {e : TypeId} {cs : Array Value} (hc : ClA S cs) (h : ∀ r, S.b r → φ ⟨r, 0, none⟩) : Av S P φ (newRow e cs) := by
  unfold newRow
  exact av_bind (av_newObj (.cells _ _ _ hc) fun r hr => h r hr)
theorem av_newVar {φ : Addr → Prop} {e : TypeId} {v : Value} (hv : Cl S v) (h : ∀ r, S.b r → φ ⟨r, 0, none⟩) : Av S P φ (newVar e v) := av_newRow hv.cells h
theorem cl_handle (X : Prg S P) (t : TypeId) : Cl S (typeHandle P t) := .ptr _ X.handles
theorem cl_strVal (s : String) : Cl S (strVal s) := .string _
theorem av_runtimePanic (X : Prg S P) {φ : α → Prop} (e : RuntimeError) : Av S P φ (runtimePanic e : Sem α) := by
  unfold runtimePanic
  refine av_bind (av_program ?_)
  cases e with
  | bounds x y s c => exact .iface _ _ (.agg _ (by simp; exact ⟨.int _ _, .int _ _, .bool _, .int _ _⟩))
  | error m => exact .iface _ _ (cl_strVal _)
  | plain m => exact .iface _ _ (cl_strVal _)
  | nilDeref => exact .iface _ _ (cl_strVal _)
  | typeAssertion i c a m =>
    refine av_bind (av_elemOf fun _ => av_bind (av_newVar (.agg _ ?_) fun r hr => .iface _ _ (.ptr _ hr)))
    have hh : ∀ t : Option TypeId, Cl S (match t with | some t => typeHandle P t | none => Value.pointer none) := by
      intro t
      cases t with
      | none => exact .ptr0
      | some t => exact cl_handle X t
    intro x hx
    simp only [List.mem_toArray, List.mem_cons, List.not_mem_nil, or_false] at hx
    rcases hx with rfl | rfl | rfl | rfl
    · exact hh i
    · exact hh c
    · exact hh (some a)
    · exact cl_strVal _
  | panicNil => exact av_bind (av_elemOf fun _ => av_bind (av_newVar (.agg _ (by simp)) fun r hr => .iface _ _ (.ptr _ hr)))
  | unhashable t => exact .iface _ _ (.agg _ (by simp; exact cl_handle X t))
theorem av_boundsPanic (X : Prg S P) {φ : α → Prop} {k : IntKind} {x y : Int} {c : BoundsCode} : Av S P φ (boundsPanic k x y c : Sem α) := by
  unfold boundsPanic
  dsimp only
  split
  · exact av_bind (av_map (av_choose fun n => av_runtimePanic X _))
  · exact av_bind (av_pure (av_runtimePanic X _))
theorem av_asIntOf {φ : IntKind × Int → Prop} {v : Value} (hv : Cl S v) (h : ∀ k n, φ (k, n)) : Av S P φ (asIntOf v) := by
  unfold asIntOf
  split
  · exact h _ _
  · exact av_unsupported _
  · exact av_stuck _
theorem av_asIntOf' {φ : IntKind × Int → Prop} {v : Value} (h : ∀ k n, φ (k, n)) : Av S P φ (asIntOf v) := by
  unfold asIntOf
  split
  · exact h _ _
  · exact av_unsupported _
  · exact av_stuck _
theorem av_asInt' {φ : Int → Prop} {v : Value} (h : ∀ n, φ n) : Av S P φ (asInt v) := av_bind (av_asIntOf' fun _ _ => h _)
theorem av_asInt {φ : Int → Prop} {v : Value} (hv : Cl S v) (h : ∀ n, φ n) : Av S P φ (asInt v) := av_asInt' h
theorem av_asBool {φ : Bool → Prop} {v : Value} (h : ∀ b, φ b) : Av S P φ (asBool v) := by
  unfold asBool
  split
  · exact h _
  · exact av_stuck _
theorem av_asAgg {φ : Array Value → Prop} {v : Value} (hv : Cl S v) (h : ∀ b, ClA S b → φ b) : Av S P φ (asAgg v) := by
  unfold asAgg
  split
  · exact h _ hv.agg_inv
  · exact av_stuck _
theorem av_asAddr (X : Prg S P) {φ : Addr → Prop} {v : Value} (hv : Cl S v) (h : ∀ a : Addr, S.b a.block → φ a) : Av S P φ (asAddr v) := by
  unfold asAddr
  split
  · exact h _ hv.ptr_inv
  · exact av_runtimePanic X _
  · exact av_stuck _
theorem av_sureAddr {φ : Addr → Prop} {v : Value} (hv : Cl S v) (h : ∀ a : Addr, S.b a.block → φ a) : Av S P φ (Instr.sureAddr v) := by
  unfold Instr.sureAddr
  split
  · exact h _ hv.ptr_inv
  · exact av_stuck _
theorem av_loadCellsFrom {φ : Array Value → Prop} {a : Addr} (ha : S.b a.block) (h : ∀ vs, ClA S vs → φ vs) : ∀ (n i : Nat) (acc : Array Value), ClA S acc → Av S P φ (loadCellsFrom a i n acc)
  | 0, _, acc, hacc => h _ hacc
  | n + 1, i, acc, hacc => av_bind (av_load (by rw [add_block']; exact ha) fun v hv => av_loadCellsFrom ha h n (i + 1) _ (hacc.push hv))
theorem av_loadCells {φ : Array Value → Prop} {a : Addr} {n : Nat} (ha : S.b a.block) (h : ∀ vs, ClA S vs → φ vs) : Av S P φ (loadCells a n) := av_loadCellsFrom ha h n 0 #[] ClA.empty
theorem av_storeCells {φ : Unit → Prop} {a : Addr} (ha : S.b a.block) (h : φ ()) : ∀ (vs : List Value) (i : Nat), ClL S vs → Av S P φ (storeCells a vs i)
  | [], _, _ => h
  | v :: rest, i, hv => av_bind (av_store (by rw [add_block']; exact ha) (hv v (by simp)) (av_storeCells ha h rest (i + 1) fun x hx => hv x (by simp [hx])))
theorem av_loadVar {φ : Value → Prop} {t : TypeId} {a : Addr} (ha : S.b a.block) (h : ∀ v, Cl S v → φ v) : Av S P φ (loadVar t a) := by
  unfold loadVar
  refine av_bind (av_isAgg fun b => ?_)
  split
  · exact av_bind (av_sizeOf fun n => av_bind (av_loadCells ha fun vs hvs => h _ (.agg _ hvs)))
  · exact av_load ha h
theorem av_storeVar {φ : Unit → Prop} {t : TypeId} {a : Addr} {v : Value} (ha : S.b a.block) (hv : Cl S v) (h : φ ()) : Av S P φ (storeVar t a v) := by
  unfold storeVar
  refine av_bind (av_sizeOf fun n => ?_)
  dsimp only
  split
  · exact av_bind (av_stuck _)
  · exact av_bind (av_pure (av_storeCells ha h _ _ hv.cells.toList))
theorem av_part {φ : Value → Prop} {t : TypeId} {cs : Array Value} {off : Nat} (hc : ClA S cs) (h : ∀ v, Cl S v → φ v) : Av S P φ (part t cs off) := by
  unfold part
  refine av_bind (av_isAgg fun b => ?_)
  split
  · exact av_bind (av_sizeOf fun n => h _ (.agg _ (hc.extract _ _)))
  · split
    · exact h _ (hc.get ‹_›)
    · exact av_stuck _
theorem clO_cells {c : Array Value} {e : TypeId} {f : Nat × Nat} (h : ClO S (.cells c e f)) : ClA S c := by cases h; assumption
theorem av_viewAt {φ : Option (Addr × TypeId) → Prop} {r : Nat} (hr : S.b r) (h : φ none) (h1 : ∀ a t, S.b a.block → φ (some (a, t))) : Av S P φ (viewAt r) := by
  unfold viewAt
  refine av_bind (av_shape hr fun x => ?_)
  split
  · exact h
  · refine av_bind (av_getObj hr fun o ho => ?_)
    cases ho with
    | view a t ha => exact h1 a t ha
    | _ => exact h
theorem av_numberAt {φ : Option (Addr × Bool) → Prop} {r : Nat} (hr : S.b r) (h : φ none) (h1 : ∀ a t, S.b a.block → φ (some (a, t))) : Av S P φ (numberAt r) := by
  unfold numberAt
  refine av_bind (av_shape hr fun x => ?_)
  split
  · exact h
  · refine av_bind (av_getObj hr fun o ho => ?_)
    cases ho with
    | number a t ha => exact h1 a t ha
    | _ => exact h
theorem av_cellsIn {φ : Option Nat → Prop} {r : Nat} (hr : S.b r) (h : ∀ x, φ x) : Av S P φ (cellsIn r) := by
  unfold cellsIn
  refine av_bind (av_shape hr fun x => ?_)
  split
  · exact h _
  · refine av_bind (av_getObj hr fun o ho => ?_)
    cases ho <;> exact h _
theorem av_behindNumber {φ : Addr × Bool → Prop} {a : Addr} (ha : S.b a.block) (h : ∀ b t, S.b b.block → φ (b, t)) : Av S P φ (behindNumber a) :=
  av_bind (av_numberAt ha (h _ _ ha) fun b t hb => h _ _ hb)
theorem av_noView {φ : Unit → Prop} {a : Addr} (ha : S.b a.block) (h : φ ()) : Av S P φ (noView a) := by
  unfold noView
  exact av_bind (av_viewAt ha h fun _ _ _ => av_unsupported _)
theorem av_asNumber {φ : Value → Prop} {a : Addr} {l : Bool} (ha : S.b a.block) (h : ∀ v, Cl S v → φ v) : Av S P φ (asNumber a l) := by
  unfold asNumber
  exact av_bind (av_newObj (.number _ _ ha) fun r hr => h _ (.ptr _ hr))
theorem av_stringish {φ : Bool → Prop} {a : Addr} (ha : S.b a.block) (h : ∀ b, φ b) : Av S P φ (stringish a) := by
  unfold stringish
  refine av_bind (av_frozen ha fun b => ?_)
  split
  · exact h _
  · refine av_bind (av_shape ha fun x => ?_)
    split
    · exact av_frozen ha h
    · exact h _
theorem av_markStringish {φ : Unit → Prop} {a : Addr} (ha : S.b a.block) (h : φ ()) : Av S P φ (markStringish a) := by
  unfold markStringish
  refine av_bind (av_shape ha fun x => ?_)
  split
  · exact av_freeze ha h
  · exact h
theorem av_mayBeOne {φ : Bool → Prop} {a b : Addr} (ha : S.b a.block) (hb : S.b b.block) (h : ∀ b, φ b) : Av S P φ (mayBeOne a b) := by
  unfold mayBeOne
  refine av_bind (av_stringish ha fun x => av_bind (av_stringish hb fun y => ?_))
  dsimp only
  repeat' (first | exact h _ | refine av_bind ?_ | refine av_shape ha (fun _ => ?_) | refine av_shape hb (fun _ => ?_) | refine av_pure ?_ | split)
theorem av_sameAddr {φ : Bool → Prop} {a b : Addr} (ha : S.b a.block) (hb : S.b b.block) (h : ∀ b, φ b) : Av S P φ (sameAddr a b) := by
  unfold sameAddr
  split
  · exact h _
  · repeat' (first | exact h _ | exact av_unsupported _ | refine av_frozen ha (fun _ => ?_) | refine av_frozen hb (fun _ => ?_) | refine av_noView ha ?_ | refine av_noView hb ?_ | refine av_mayBeOne ha hb (fun _ => ?_) | refine av_choose (fun _ => ?_) | refine av_bind ?_ | refine av_pure ?_ | split | dsimp only)
theorem av_samePointer {φ : Bool → Prop} {a b : Option Addr} (ha : Cl S (.pointer a)) (hb : Cl S (.pointer b)) (h : ∀ b, φ b) : Av S P φ (samePointer a b) := by
  unfold samePointer
  split
  · exact av_sameAddr ha.ptr_inv hb.ptr_inv h
  · exact h _
theorem av_byteOf {φ : Nat → Prop} {a : Addr} (ha : S.b a.block) (h : ∀ b, φ b) : Av S P φ (byteOf a) := by
  unfold byteOf
  split
  · exact h _
  · repeat' (first | exact h _ | exact av_stuck _ | refine av_program ?_ | refine av_noView ha ?_ | refine av_shape ha (fun _ => ?_) | refine av_bind ?_ | refine av_pure ?_ | split | dsimp only)
theorem av_partAt {φ : Addr → Prop} {a : Addr} {m n : Nat} (ha : S.b a.block) (h : ∀ b : Addr, S.b b.block → φ b) : Av S P φ (partAt a m n) := by
  unfold partAt
  refine av_bind (av_byteOf ha fun b => av_bind (av_byteOf ha fun c => ?_))
  refine h _ ?_
  split <;> exact ha
theorem av_fieldPlace {φ : Addr → Prop} {a : Addr} {f : Field} (ha : S.b a.block) (h : ∀ b : Addr, S.b b.block → φ b) : Av S P φ (fieldPlace a f) := by
  unfold fieldPlace
  refine av_bind (av_sizeOf fun n => ?_)
  split
  · exact av_partAt ha h
  · exact h _ (by rw [add_block']; exact ha)
theorem av_variablesAt {φ : Bool → Prop} {a : Addr} {u : TypeId} {n : Nat} (ha : S.b a.block) (h : ∀ b, φ b) : Av S P φ (variablesAt a u n) := by
  unfold variablesAt
  refine av_bind (av_program (av_bind (av_shape ha fun x => ?_)))
  split <;> exact h _
theorem av_loadBytes {φ : ByteArray → Prop} (h : ∀ b, φ b) : ∀ (n : Nat) (a : Addr) (acc : ByteArray), S.b a.block → Av S P φ (loadBytes a acc n)
  | 0, _, _, _ => h _
  | n + 1, a, acc, ha => by
    unfold loadBytes
    refine av_bind (av_load ha fun v hv => ?_)
    split
    · exact av_loadBytes h n _ _ (by rw [add_block']; exact ha)
    · exact av_stuck _
theorem av_bytesOfLoad {φ : ByteArray → Prop} (h : ∀ b, φ b) : ∀ (n : Nat) (a : Addr) (acc : ByteArray), S.b a.block → Av S P φ (Extern.Bytes.loadBytes a n acc)
  | 0, _, _, _ => h _
  | n + 1, a, acc, ha => by
    unfold Extern.Bytes.loadBytes
    refine av_bind (av_load ha fun v hv => ?_)
    split
    · exact av_bytesOfLoad h n _ _ (by rw [add_block']; exact ha)
    · exact av_stuck _
end
end Go.Proofs.YtacimedkchjfnaaGreat
end

section
/-! What the operations ask for: the operations of this program's code. -/
namespace Go.Proofs.YtacimedkchjfnaaGreat
set_option linter.unusedSimpArgs false
set_option linter.unusedVariables false

section
variable {S : Sc} {P : Program}

theorem av_sys {φ : SysRet → Prop} {c : Sys} (hc : Prompt c) (h : ∀ r, φ r) : Av S P φ (sys c) := ⟨hc, h⟩
theorem prompt_env : Prompt .env := fun w h => by cases h
theorem prompt_clock : Prompt (.clock 1) := fun w h => by cases h
theorem av_alloc (X : Prg S P) (e : TypeId) : Av S P (Cl S) (Instr.alloc e true (.tuple #[])) := by
  unfold Instr.alloc
  refine av_bind (av_zeroValue X fun v hv => ?_)
  split
  · cases ‹true = false›
  · exact av_bind (av_newVar hv fun r hr => av_pure (.ptr _ hr))
theorem av_box (X : Prg S P) (e : TypeId) {v : Value} (hv : Cl S v) : Av S P (Cl S) (Instr.box e v) := av_bind (av_newVar hv fun r hr => av_pure (.ptr _ hr))
theorem av_loadAt {t : TypeId} {v : Value} (hv : Cl S v) : Av S P (Cl S) (Instr.loadAt t v) := av_bind (av_sureAddr hv fun a ha => av_loadVar ha fun _ h => h)
theorem av_storeAt {t : TypeId} {v x : Value} (hv : Cl S v) (hx : Cl S x) : Av S P (fun _ => True) (Instr.storeAt t v x) := av_bind (av_sureAddr hv fun a ha => av_storeVar ha hx trivial)
theorem av_fieldAt {t : TypeId} {v : Value} {f : Nat} (hv : Cl S v) : Av S P (Cl S) (Instr.fieldAt t v f) := by
  unfold Instr.fieldAt
  refine av_bind (av_underlying fun d => ?_)
  split
  · split
    · exact av_bind (av_sureAddr hv fun a ha => av_bind (av_fieldPlace ha fun b hb => av_pure (.ptr _ hb)))
    · exact av_stuck _
  · exact av_stuck _
theorem av_indexAt (X : Prg S P) {t : TypeId} {v i : Value} (hv : Cl S v) : Av S P (Cl S) (Instr.indexAt t v i) := by
  unfold Instr.indexAt
  refine av_bind (av_asIntOf' fun k n => ?_)
  dsimp only
  have tail : ∀ (base : Option Addr) (len : Nat) (elem : TypeId), (∀ a, base = some a → S.b a.block) → Av S P (Cl S) (do
      let tiny := len ≤ 1 && (match ← underlying t with | .array .. => true | _ => false)
      match base with
      | some a =>
        if 0 ≤ n ∧ n < len then pure (.pointer (some (a.add (n.toNat * (← sizeOf elem)))))
        else if tiny then unsupported (.noEntry "op/indexAddr.an index out of range at an array of length 0 or 1 (ledger 616)")
        else boundsPanic k n len .index
      | none => boundsPanic k n 0 .index) := by
    intro base len elem hb
    refine av_bind (av_underlying fun d => ?_)
    dsimp only
    cases base with
    | none => exact av_boundsPanic X
    | some a =>
      dsimp only
      by_cases h : 0 ≤ n ∧ n < len
      · rw [if_pos h]; exact av_bind (av_sizeOf fun n => av_pure (.ptr _ (by rw [add_block']; exact hb _ rfl)))
      · rw [if_neg h]
        repeat' (first | exact av_unsupported _ | exact av_boundsPanic X | split)
  refine av_bind (av_underlying fun d => ?_)
  split
  · refine av_bind (av_sureAddr hv fun a ha => av_bind (av_pure ?_))
    exact tail (some a) _ _ (by intro b hb; cases hb; exact ha)
  · rename_i e b l c
    refine av_bind (av_pure ?_)
    refine tail b _ _ ?_
    intro a ha
    subst ha
    exact hv.slice_inv
  · exact av_bind (av_stuck _)
theorem av_index (X : Prg S P) {t : TypeId} {v i : Value} (hv : Cl S v) : Av S P (Cl S) (Instr.index t v i) := by
  unfold Instr.index
  refine av_bind (av_asIntOf' fun k n => av_bind (av_underlying fun d => ?_))
  split
  · split
    · exact av_bind (av_sizeOf fun n => av_part hv.agg_inv fun _ h => h)
    · exact av_boundsPanic X
  · split
    · exact av_pure (.int _ _)
    · exact av_boundsPanic X
  · exact av_stuck _
theorem av_field {t : TypeId} {v : Value} {f : Nat} (hv : Cl S v) : Av S P (Cl S) (Instr.field t v f) := by
  unfold Instr.field
  refine av_bind (av_underlying fun d => ?_)
  split
  · split
    · exact av_bind (av_asAgg hv fun a ha => av_part ha fun _ h => h)
    · exact av_stuck _
  · exact av_stuck _
theorem av_sliceBound (X : Prg S P) {φ : Nat → Prop} {v : Value} {y : Nat} {c : BoundsCode} (h : ∀ n, φ n) : Av S P φ (Instr.sliceBound v y c) := by
  unfold Instr.sliceBound
  refine av_bind (av_asIntOf' fun k n => ?_)
  dsimp only
  split
  · exact av_pure (h _)
  · exact av_boundsPanic X
theorem av_sliceBounds (X : Prg S P) {φ : Nat × Nat × Nat → Prop} {b : Bool} {l c : Nat} {lo hi mx : Option Value} (h : ∀ x, φ x) : Av S P φ (Instr.sliceBounds b l c lo hi mx) := by
  unfold Instr.sliceBounds
  repeat' (first | exact h _ | exact av_stuck _ | refine av_sliceBound X (fun _ => ?_) | refine av_bind ?_ | refine av_pure ?_ | split | dsimp only)
theorem av_slice (X : Prg S P) {t : TypeId} {v : Value} {lo hi mx : Option Value} (hv : Cl S v) : Av S P (Cl S) (Instr.slice t v lo hi mx) := by
  unfold Instr.slice
  refine av_bind (av_underlying fun d => ?_)
  split
  · repeat' (first | exact av_stuck _ | refine av_sliceBounds X (fun _ => ?_) | refine av_bind ?_ | exact av_pure (.string _) | refine av_pure ?_ | split | dsimp only)
  · rename_i e a l c
    refine av_bind (av_sliceBounds X fun x => ?_)
    dsimp only
    refine av_bind (av_sizeOf fun n => av_pure ?_)
    cases a with
    | none => split <;> exact .slice0 _ _
    | some a =>
      have := hv.slice_inv
      split
      · exact .slice _ _ _ this
      · exact .slice _ _ _ (by rw [add_block']; exact this)
  · refine av_bind (av_asAddr X hv fun a ha => av_bind (av_underlying fun d => ?_))
    split
    · refine av_bind (av_sliceBounds X fun x => ?_)
      dsimp only
      refine av_bind (av_sizeOf fun n => av_pure (.slice _ _ _ ?_))
      split
      · exact ha
      · rw [add_block']; exact ha
    · exact av_stuck _
  · exact av_stuck _
theorem av_sliceAt (X : Prg S P) {t : TypeId} {v : Value} {lo hi mx : Option Value} (hv : Cl S v) : Av S P (Cl S) (Instr.sliceAt t v lo hi mx) := by
  unfold Instr.sliceAt
  refine av_bind (av_underlying fun d => ?_)
  split
  · refine av_bind (av_sureAddr hv fun a ha => av_bind (av_sliceBounds X fun x => ?_))
    dsimp only
    refine av_bind (av_sizeOf fun n => av_pure (.slice _ _ _ ?_))
    split
    · exact ha
    · rw [add_block']; exact ha
  · exact av_slice X hv
theorem fill_cl {place : Nat → Option (Nat × Nat)} : ∀ (ps : List (Nat × Value)) (cells out : Array Value), ClA S cells → (∀ p ∈ ps, Cl S p.2) → Instr.fill place cells ps = some out → ClA S out
  | [], cells, out, hc, _, h => by simp [Instr.fill] at h; subst h; exact hc
  | (i, v) :: rest, cells, out, hc, hp, h => by
    simp only [Instr.fill] at h
    split at h
    · cases h
    · split at h
      · cases h
      · refine fill_cl rest _ out ?_ (fun p hp' => hp p (by simp [hp'])) h
        have hv : ClA S v.cells := (hp (i, v) (by simp)).cells
        have : ∀ (off : Nat) (l : List (Value × Nat)) (cs : Array Value), (∀ x ∈ l, Cl S x.1) → ClA S cs → ClA S (l.foldl (fun cs x => cs.setIfInBounds (off + x.2) x.1) cs) := by
          intro off l
          induction l with
          | nil => intro cs _ h; exact h
          | cons a l ih => intro cs ha h; exact ih _ (fun x hx => ha x (by simp [hx])) (h.set (ha a (by simp)) _)
        rw [← Array.foldl_toList]
        refine this _ _ _ (fun x hx => ?_) hc
        have hx' : x ∈ v.cells.zipIdx := Array.mem_toList_iff.1 hx
        obtain ⟨k, hk⟩ := Array.getElem?_of_mem hx'
        rw [Array.getElem?_zipIdx] at hk
        obtain ⟨y, hy, rfl⟩ := Option.map_eq_some_iff.1 hk
        exact hv.get hy
theorem av_mapM {α β : Type} {f : α → Sem β} {ψ : β → Prop} {l : List α} (h : ∀ a ∈ l, Av S P ψ (f a)) {φ : List β → Prop} (hφ : ∀ bs : List β, (∀ b ∈ bs, ψ b) → φ bs) : Av S P φ (l.mapM f) := by
  refine av_mono (φ := fun bs => ∀ b ∈ bs, ψ b) hφ ?_
  clear hφ
  induction l with
  | nil => rw [List.mapM_nil]; exact av_pure (by simp)
  | cons a l ih =>
    rw [List.mapM_cons]
    refine av_then ψ (h a (by simp)) fun b hb => av_then _ (ih fun x hx => h x (by simp [hx])) fun bs hbs => av_pure ?_
    intro x hx
    rcases List.mem_cons.1 hx with rfl | hx
    · exact hb
    · exact hbs x hx
theorem av_mapMA {α β : Type} {f : α → Sem β} {ψ : β → Prop} {l : Array α} (h : ∀ a ∈ l, Av S P ψ (f a)) {φ : Array β → Prop} (hφ : ∀ bs : Array β, (∀ b ∈ bs, ψ b) → φ bs) : Av S P φ (l.mapM f) := by
  rw [Array.mapM_eq_mapM_toList]
  exact av_map (av_mapM (fun a ha => h a (by simpa using ha)) fun bs hbs => hφ _ (by simpa using hbs))
theorem av_build (X : Prg S P) {t : TypeId} {ps : Array (Nat × Value)} (hp : ∀ p ∈ ps, Cl S p.2) : Av S P (Cl S) (Instr.build t ps) := by
  unfold Instr.build
  have hp' : ∀ p ∈ ps.toList, Cl S p.2 := fun p h => hp p (by simpa using h)
  refine av_bind (av_zeroValue X fun z hz => av_bind (av_underlying fun d => ?_))
  split
  · refine av_bind (av_mapMA (ψ := fun _ => True) (fun f _ => av_bind (av_sizeOf fun n => av_pure trivial)) fun places _ => ?_)
    split
    · exact av_pure (.agg _ (fill_cl _ _ _ hz.cells hp' ‹_›))
    · exact av_stuck _
  · refine av_bind (av_sizeOf fun n => ?_)
    split
    · exact av_pure (.agg _ (fill_cl _ _ _ hz.cells hp' ‹_›))
    · exact av_stuck _
  · exact av_stuck _
theorem cycle_cl {z : Array Value} (hz : ClA S z) (n : Nat) : ClA S ((Array.range n).map (z[· % z.size]!)) := by
  intro x hx
  obtain ⟨i, _, rfl⟩ := Array.mem_map.1 hx
  by_cases h : i % z.size < z.size
  · rw [getElem!_pos z _ h]; exact hz _ (by simp)
  · rw [getElem!_neg z _ h]; exact .bool _
theorem av_buildSlice (X : Prg S P) {t : TypeId} {n : Nat} {ps : Array (Nat × Value)} (hp : ∀ p ∈ ps, Cl S p.2) : Av S P (Cl S) (Instr.buildSlice t n ps) := by
  unfold Instr.buildSlice
  have hp' : ∀ p ∈ ps.toList, Cl S p.2 := fun p h => hp p (by simpa using h)
  refine av_bind (av_underlying fun d => ?_)
  split
  · refine av_bind (av_sizeOf fun sz => ?_)
    dsimp only
    rename_i elem
    have tail : ∀ zero : Array Value, ClA S zero → Av S P (Cl S) (match Instr.fill (fun i => some (i * sz, sz)) ((Array.range (n * sz)).map (zero[· % zero.size]!)) ps.toList with
        | some cells => do pure (.slice (some (← newRow elem cells)) n n)
        | _ => stuck "buildSlice: a part of the wrong size" : Sem Value) := by
      intro zero hz
      split
      · exact av_bind (av_newRow (fill_cl _ _ _ (cycle_cl hz _) hp' ‹_›) fun r hr => av_pure (.slice _ _ _ hr))
      · exact av_stuck _
    split
    · exact av_bind (av_unsupported _)
    · split
      · exact av_bind (av_pure (tail _ ClA.empty))
      · exact av_bind (av_zeroValue X fun v hv => av_bind (av_pure (tail _ hv.cells)))
  · exact av_stuck _
theorem av_makeSlice (X : Prg S P) {t : TypeId} {a b : Value} : Av S P (Cl S) (Instr.makeSlice t a b) := by
  unfold Instr.makeSlice
  refine av_bind (av_underlying fun d => ?_)
  split
  · refine av_bind (av_asInt' fun n => av_bind (av_asInt' fun m => av_bind (av_typeInfo fun i _ => ?_)))
    dsimp only
    split
    · repeat' (first | exact av_runtimePanic X _ | refine av_choose (fun _ => ?_) | refine av_bind ?_ | split)
    · refine av_bind (av_askRoom (av_bind (av_sizeOf fun n => ?_)))
      split
      · exact av_bind (av_pure (av_bind (av_newRow (cycle_cl ClA.empty _) fun r hr => av_pure (.slice _ _ _ hr))))
      · exact av_bind (av_zeroValue X fun v hv => av_bind (av_pure (av_bind (av_newRow (cycle_cl hv.cells _) fun r hr => av_pure (.slice _ _ _ hr)))))
  · exact av_stuck _
theorem av_makeInterface {t : TypeId} {v : Value} (hv : Cl S v) : Av S P (Cl S) (Instr.makeInterface t v) := by
  unfold Instr.makeInterface
  refine av_bind (av_underlying fun d => ?_)
  split
  · exact av_stuck _
  · exact av_pure (.iface _ _ hv)
theorem av_extract {v : Value} {n : Nat} (hv : Cl S v) : Av S P (Cl S) (Instr.extract v n) := by
  unfold Instr.extract
  split
  · split
    · exact av_pure (hv.tuple_inv.get ‹_›)
    · exact av_stuck _
  · exact av_stuck _
theorem av_panic (X : Prg S P) {v : Value} (hv : Cl S v) : Av S P (Cl S) (Instr.panic v) := by
  unfold Instr.panic
  split
  · exact av_goPanic hv
  · unfold Instr.panicnil
    repeat' (first | exact av_runtimePanic X _ | exact av_stuck _ | exact av_goPanic .nilIface | refine av_sys prompt_env (fun _ => ?_) | refine av_program ?_ | refine av_bind ?_ | refine av_pure ?_ | split | dsimp only)
  · exact av_stuck _
theorem av_typeAssert (X : Prg S P) {v : Value} {t u : TypeId} {ok : Bool} (hv : Cl S v) : Av S P (Cl S) (Instr.typeAssert v t u ok) := by
  unfold Instr.typeAssert
  have hh : ∀ w, Cl S w → Cl S (if ok = true then .tuple #[w, .bool true] else w) := by
    intro w hw
    split
    · exact .tuple _ (by simp; exact ⟨hw, .bool _⟩)
    · exact hw
  have hf : ∀ a b c, Av S P (Cl S) (if ok = true then (do pure (.tuple #[← zeroValue u, .bool false])) else runtimePanic (.typeAssertion a b u c) : Sem Value) := by
    intro a b c
    split
    · exact av_bind (av_zeroValue X fun z hz => av_pure (.tuple _ (by simp; exact ⟨hz, .bool _⟩)))
    · exact av_runtimePanic X _
  dsimp only
  refine av_bind (av_underlying fun d => ?_)
  split
  · exact hf _ _ _
  · refine av_bind (av_typeInfo fun i _ => ?_)
    split
    · exact av_pure (hh _ hv)
    · exact hf _ _ _
  · exact hf _ _ _
  · split
    · exact av_pure (hh _ hv.iface_inv)
    · exact hf _ _ _
  · exact av_stuck _
theorem av_range {t : TypeId} {v : Value} (hv : Cl S v) : Av S P (Cl S) (Instr.range t v) := by
  unfold Instr.range
  refine av_bind (av_underlying fun d => ?_)
  dsimp only
  split
  · exact av_bind (av_pure (av_bind (av_newObj (.stringIter _ _) fun r hr => av_pure (.ptr _ hr))))
  · exact av_bind (av_pure (av_bind (av_newObj (.mapIter0 _ _ _) fun r hr => av_pure (.ptr _ hr))))
  · cases hv
  · exact av_bind (av_stuck _)
theorem av_next {t : TypeId} {v : Value} (hv : Cl S v) : Av S P (Cl S) (Instr.next v true t) := by
  unfold Instr.next
  dsimp only
  split
  · have hr := hv.ptr_inv
    refine av_bind (av_getObj hr fun o ho => ?_)
    split
    · split
      · exact av_bind (av_setObj hr (.stringIter _ _) (av_pure (.tuple _ (by simp; exact ⟨.bool _, .int _ _, .int _ _⟩))))
      · exact av_pure (.tuple _ (by simp; exact .bool _))
    · cases ‹true = false›
    · cases ‹true = false›
    · exact av_stuck _
  · exact av_stuck _
end
end Go.Proofs.YtacimedkchjfnaaGreat
end

section
/-! What the operations ask for: arithmetic, comparisons, conversions. -/
namespace Go.Proofs.YtacimedkchjfnaaGreat
set_option linter.unusedSimpArgs false
set_option linter.unusedVariables false

section
variable {S : Sc} {P : Program}

theorem av_intArith {o : BinOp} {k : IntKind} {x y : Int} : Av S P (Cl S) (Op.intArith o k x y) := by
  unfold Op.intArith
  split <;> first | exact av_pure (.int _ _) | exact av_stuck _
theorem av_intBits {o : BinOp} {k : IntKind} {x y : Int} : Av S P (Cl S) (Op.intBits o k x y) := by
  unfold Op.intBits
  dsimp only
  split <;> first | exact av_pure (.int _ _) | exact av_stuck _
theorem av_intCmp {o : BinOp} {x y : Int} : Av S P (Cl S) (Op.intCmp o x y) := by
  unfold Op.intCmp
  split <;> first | exact av_pure (.bool _) | exact av_stuck _
theorem av_intDiv (X : Prg S P) {o : BinOp} {k : IntKind} {x y : Int} : Av S P (Cl S) (Op.intDiv o k x y) := by
  unfold Op.intDiv
  repeat' (first | exact av_runtimePanic X _ | exact av_pure (.int _ _) | exact av_stuck _ | split)
theorem av_shift (X : Prg S P) {o : BinOp} {k l : IntKind} {x y : Int} : Av S P (Cl S) (Op.shift o k x l y) := by
  unfold Op.shift
  dsimp only
  repeat' (first | exact av_runtimePanic X _ | exact av_pure (.int _ _) | exact av_stuck _ | split)
theorem av_stringOp {o : BinOp} {x y : ByteArray} : Av S P (Cl S) (Op.stringOp o x y) := by
  unfold Op.stringOp
  dsimp only
  repeat' (first | exact av_pure (.bool _) | exact av_pure (.string _) | exact av_stuck _ | exact av_unsupported _ | split)
theorem av_unary {o : UnOp} {v : Value} (hv : Cl S v) : Av S P (Cl S) (Op.unary o v) := by
  unfold Op.unary
  split
  · exact av_intArith
  · exact av_intBits
  · cases hv
  · cases hv
  · exact av_pure (.bool _)
  · exact av_unsupported _
  · exact av_unsupported _
  · exact av_stuck _
theorem av_forIn {α β : Type} {f : α → β → Sem (ForInStep β)} {l : List α} (h : ∀ a ∈ l, ∀ b, Av S P (fun _ => True) (f a b)) (b : β) : Av S P (fun _ => True) (forIn l b f) := by
  induction l generalizing b with
  | nil => rw [List.forIn_nil]; exact av_pure trivial
  | cons a l ih =>
    rw [List.forIn_cons]
    refine av_then _ (h a (by simp) b) fun r _ => ?_
    cases r with
    | done b => exact av_pure trivial
    | yield b => exact ih (fun a ha => h a (by simp [ha])) b
theorem av_forInA {α β : Type} {f : α → β → Sem (ForInStep β)} {l : Array α} (h : ∀ a ∈ l, ∀ b, Av S P (fun _ => True) (f a b)) (b : β) : Av S P (fun _ => True) (forIn l b f) := by
  rw [← Array.forIn_toList]
  exact av_forIn (fun a ha => h a (by simpa using ha)) b
theorem av_forInR {β : Type} {f : Nat → β → Sem (ForInStep β)} {n : Nat} (h : ∀ a b, Av S P (fun _ => True) (f a b)) (b : β) : Av S P (fun _ => True) (forIn [0:n] b f) := by
  rw [Std.Legacy.Range.forIn_eq_forIn_range']
  exact av_forIn (fun a _ b => h a b) b
theorem av_equalIn (X : Prg S P) : ∀ (d : Nat) (t : TypeId) (x y : Value), Cl S x → Cl S y → Av S P (fun _ => True) (Op.equalIn d t x y)
  | 0, _, _, _, _, _ => av_unsupported _
  | d + 1, t, x, y, hx, hy => by
    unfold Op.equalIn
    refine av_bind (av_underlying fun ty => ?_)
    split
    · exact av_pure trivial
    · split
      · exact av_pure trivial
      · exact av_stuck _
    · exact av_pure trivial
    · exact av_pure trivial
    · refine av_bind (av_behindNumber hx.ptr_inv fun a _ ha => ?_)
      refine av_bind (av_behindNumber hy.ptr_inv fun b _ hb => ?_)
      dsimp only
      repeat' (first | exact av_pure trivial | exact av_unsupported _ | refine av_program ?_ | refine av_typeInfo (fun _ _ => ?_) | refine av_byteOf ha (fun _ => ?_) | refine av_byteOf hb (fun _ => ?_) | refine av_bind ?_ | split)
    · exact av_unsupported _
    · exact av_unsupported _
    · split
      · exact av_pure trivial
      · exact av_stuck _
    · split
      · exact av_pure trivial
      · exact av_stuck _
    · exact av_pure trivial
    · exact av_pure trivial
    · exact av_pure trivial
    · refine av_bind (av_sizeOf fun n => ?_)
      split
      · exact av_sameAddr hx.ptr_inv hy.ptr_inv fun _ => trivial
      · split
        · exact av_pure trivial
        · exact av_bind (av_choose fun _ => av_pure trivial)
    · exact av_samePointer hx hy fun _ => trivial
    · exact av_pure trivial
    · exact av_pure trivial
    · exact av_pure trivial
    · exact av_pure trivial
    · split
      · exact av_pure trivial
      · refine av_bind (av_typeInfo fun i _ => ?_)
        split
        · repeat' (first | exact av_unsupported _ | exact av_runtimePanic X _ | refine av_program ?_ | refine av_typeStr (fun _ => ?_) | refine av_bind ?_ | refine av_pure ?_ | split | dsimp only)
        · exact av_equalIn X d _ _ _ hx.iface_inv hy.iface_inv
    · refine av_bind (av_program ?_)
      dsimp only
      split
      · exact av_bind (av_unsupported _)
      · refine av_then (fun _ => True) (av_forInA (fun f _ r => ?_) _) fun s _ => ?_
        · split
          · refine av_bind (av_part hx.agg_inv fun v hv => av_bind (av_part hy.agg_inv fun u hu => ?_))
            refine av_then _ (av_equalIn X d _ _ _ hv hu) fun b _ => ?_
            split <;> exact av_pure trivial
          · exact av_pure trivial
        · split <;> exact av_pure trivial
    · refine av_bind (av_sizeOf fun n => ?_)
      refine av_then (fun _ => True) (av_forInR (fun f r => ?_) _) fun s _ => ?_
      · refine av_bind (av_part hx.agg_inv fun v hv => av_bind (av_part hy.agg_inv fun u hu => ?_))
        refine av_then _ (av_equalIn X d _ _ _ hv hu) fun b _ => ?_
        split <;> exact av_pure trivial
      · dsimp only
        split <;> exact av_pure trivial
    all_goals first | exact av_pure trivial | exact av_stuck _
theorem av_equal (X : Prg S P) {t : TypeId} {x y : Value} (hx : Cl S x) (hy : Cl S y) {φ : Bool → Prop} (h : ∀ b, φ b) : Av S P φ (Op.equal t x y) := av_mono (fun b _ => h b) (av_equalIn X _ _ _ _ hx hy)
theorem av_eqGuardIn : ∀ (d : Nat) (t : TypeId) (x y : Value), Cl S x → Cl S y → Av S P (fun _ => True) (Op.eqGuardIn d t x y)
  | 0, _, _, _, _, _ => av_unsupported _
  | d + 1, t, x, y, hx, hy => by
    unfold Op.eqGuardIn
    refine av_bind (av_underlying fun ty => ?_)
    split
    · exact av_pure trivial
    · refine av_then (fun _ => True) (av_forInA (fun f _ r => ?_) _) fun s _ => ?_
      · split
        · refine av_bind (av_part hx.agg_inv fun v hv => av_bind (av_part hy.agg_inv fun u hu => ?_))
          refine av_then _ (av_eqGuardIn d _ _ _ hv hu) fun b _ => ?_
          split <;> exact av_pure trivial
        · exact av_pure trivial
      · dsimp only
        split <;> exact av_pure trivial
    · refine av_bind (av_sizeOf fun n => ?_)
      refine av_then (fun _ => True) (av_forInR (fun f r => ?_) _) fun s _ => ?_
      · refine av_bind (av_part hx.agg_inv fun v hv => av_bind (av_part hy.agg_inv fun u hu => ?_))
        refine av_then _ (av_eqGuardIn d _ _ _ hv hu) fun b _ => ?_
        split <;> exact av_pure trivial
      · dsimp only
        split <;> exact av_pure trivial
    · exact av_pure trivial
theorem av_eqGuard {o : BinOp} {t : TypeId} {p q : Operand} {x y : Value} (hx : Cl S x) (hy : Cl S y) : Av S P (fun _ => True) (eqGuard o t p q x y) := by
  unfold eqGuard
  repeat' (first | exact av_pure trivial | exact trivial | exact av_unsupported _ | exact av_mono (fun b _ => trivial) (av_eqGuardIn _ _ _ _ hx hy) | refine av_then _ (av_eqGuardIn _ _ _ _ hx hy) (fun b _ => ?_) | refine av_program ?_ | refine av_bind ?_ | split | dsimp only)
theorem av_unsafeAdd {a : Array TypeId} {t : TypeId} {x y : Value} (hx : Cl S x) : Av S P (Cl S) (Builtin.unsafeAdd_ a t #[x, y]) := by
  unfold Builtin.unsafeAdd_
  cases x with
  | pointer ptr =>
    refine av_bind (av_asInt' fun n => ?_)
    dsimp only
    split
    · cases ptr with
      | none => exact av_bind (av_unsupported _)
      | some a => exact av_bind (av_viewAt hx.ptr_inv (av_pure hx) fun _ _ _ => av_bind (av_unsupported _))
    · split
      · exact av_bind (av_unsupported _)
      · cases ptr with
        | none => exact av_unsupported _
        | some a =>
          refine av_bind (av_shape hx.ptr_inv fun x => ?_)
          split
          · refine av_bind (av_program ?_)
            split
            · exact av_pure (.ptr _ hx.ptr_inv)
            · exact av_unsupported _
          · exact av_unsupported _
  | _ => exact av_stuck _
theorem av_movedNumber {t : TypeId} {x y : Value} (hx : Cl S x) : Av S P (Cl S) (movedNumber t x y) := by
  unfold movedNumber
  have tail : Av S P (Cl S) (match (generalizing := false) x with
      | .pointer (some n) => do
        let (a, lost) ← behindNumber n
        match ← Builtin.unsafeAdd_ #[] t #[.pointer (some a), y] with
        | .pointer (some b) => asNumber b lost
        | v => pure v
      | _ => Builtin.unsafeAdd_ #[] t #[x, y] : Sem Value) := by
    split
    · refine av_bind (av_behindNumber hx.ptr_inv fun b l hb => ?_)
      refine av_then _ (av_unsafeAdd (.ptr _ hb)) fun v hv => ?_
      split
      · exact av_asNumber hv.ptr_inv fun _ h => h
      · exact av_pure hv
    · exact av_unsafeAdd hx
  refine av_bind (av_underlying fun d => ?_)
  cases d with
  | unsafePointer => exact av_bind (av_unsupported _)
  | _ => exact tail
theorem av_movedPointer {t : TypeId} {x y : Value} (hx : Cl S x) : Av S P (Cl S) (movedPointer t x y) := by
  unfold movedPointer
  split
  · refine av_bind (av_numberAt hx.ptr_inv ?_ fun _ _ _ => av_bind (av_unsupported _))
    rw [if_neg (by simp)]
    exact av_unsafeAdd hx
  · exact av_unsafeAdd hx
theorem av_addrSub {k : IntKind} {a b : Addr} (ha : S.b a.block) (hb : S.b b.block) : Av S P (Cl S) (Op.addrSub k a b) := by
  unfold Op.addrSub Op.twoPlaces
  repeat' (first | exact av_pure (.int _ _) | exact av_bind (av_unsupported _) | exact av_unsupported _ | refine av_program ?_ | refine av_byteOf ha (fun _ => ?_) | refine av_byteOf hb (fun _ => ?_) | refine av_bind ?_ | refine av_pure ?_ | split | dsimp only)
theorem av_addrCmp {o : BinOp} {a b : Addr} (ha : S.b a.block) (hb : S.b b.block) : Av S P (Cl S) (Op.addrCmp o a b) := by
  unfold Op.addrCmp Op.twoPlaces
  repeat' (first | exact av_pure (.bool _) | exact av_bind (av_unsupported _) | exact av_unsupported _ | refine av_program ?_ | refine av_byteOf ha (fun _ => ?_) | refine av_byteOf hb (fun _ => ?_) | refine av_bind ?_ | refine av_pure ?_ | split | dsimp only)
theorem av_addrMod {k : IntKind} {a : Addr} {n : Int} (ha : S.b a.block) : Av S P (Cl S) (Op.addrMod k a n) := by
  unfold Op.addrMod
  repeat' (first | exact av_pure (.int _ _) | exact av_bind (av_unsupported _) | exact av_unsupported _ | refine av_shape ha (fun _ => ?_) | refine av_typeInfo (fun _ _ => ?_) | refine av_byteOf ha (fun _ => ?_) | refine av_bind ?_ | refine av_pure ?_ | split | dsimp only)
theorem av_binOp (X : Prg S P) {o : BinOp} {t : TypeId} {x y : Value} (hx : Cl S x) (hy : Cl S y) : Av S P (Cl S) (binOp o t x y) := by
  unfold binOp
  split
  · exact av_shift X
  · exact av_shift X
  · split
    · exact av_stuck _
    · split <;> first | exact av_intArith | exact av_intDiv X | exact av_intBits | exact av_intCmp
  · cases hx
  · cases hx
  · exact av_stringOp
  · exact av_bind (av_equal X hx hy fun b => av_pure (.bool _))
  · exact av_bind (av_equal X hx hy fun b => av_pure (.bool _))
  · refine av_bind (av_underlying fun d => ?_)
    split
    · exact av_movedPointer hx
    · exact av_movedNumber hx
  · exact av_movedNumber hy
  · exact av_movedNumber hx
  · exact av_bind (av_behindNumber hx.ptr_inv fun a _ ha => av_bind (av_behindNumber hy.ptr_inv fun b _ hb => av_addrSub ha hb))
  · exact av_bind (av_behindNumber hx.ptr_inv fun a _ ha => av_bind (av_behindNumber hy.ptr_inv fun b _ hb => av_addrCmp ha hb))
  · exact av_bind (av_behindNumber hx.ptr_inv fun a _ ha => av_bind (av_behindNumber hy.ptr_inv fun b _ hb => av_addrCmp ha hb))
  · exact av_bind (av_behindNumber hx.ptr_inv fun a _ ha => av_bind (av_behindNumber hy.ptr_inv fun b _ hb => av_addrCmp ha hb))
  · exact av_bind (av_behindNumber hx.ptr_inv fun a _ ha => av_bind (av_behindNumber hy.ptr_inv fun b _ hb => av_addrCmp ha hb))
  · exact av_bind (av_behindNumber hx.ptr_inv fun a _ ha => av_addrMod ha)
  · exact av_bind (av_behindNumber hx.ptr_inv fun a _ ha => av_addrMod ha)
  · exact av_bind (av_behindNumber hy.ptr_inv fun a _ ha => av_addrMod ha)
  · exact av_unsupported _
  · exact av_unsupported _
  · exact av_stuck _
end
end Go.Proofs.YtacimedkchjfnaaGreat
end

section
/-! What the operations ask for: builtins, conversions, the rows of functions without a body. -/
namespace Go.Proofs.YtacimedkchjfnaaGreat
set_option linter.unusedSimpArgs false
set_option linter.unusedVariables false

section
variable {S : Sc} {P : Program}

theorem av_len {ts : Array TypeId} {t : TypeId} {vs : Array Value} (hv : ClA S vs) : Av S P (Cl S) (Builtin.len_ ts t vs) := by
  unfold Builtin.len_
  split
  · rename_i _ t x h
    simp only [Prod.mk.injEq] at h
    have hx' : Cl S x := hv.get h.2
    refine av_bind (av_underlying fun d => ?_)
    split
    · exact av_pure (.int _ _)
    · exact av_pure (.int _ _)
    · refine av_bind (av_underlying fun d => ?_)
      split
      · exact av_pure (.int _ _)
      · exact av_stuck _
    · exact av_pure (.int _ _)
    · exact av_pure (.int _ _)
    · exact av_pure (.int _ _)
    · cases hx'
    · cases hx' with
      | chan r hr =>
        refine av_bind (av_getObj hr fun o ho => ?_)
        cases ho <;> exact av_stuck _
    · exact av_stuck _
  · exact av_stuck _
theorem av_cap {ts : Array TypeId} {t : TypeId} {vs : Array Value} (hv : ClA S vs) : Av S P (Cl S) (Builtin.cap_ ts t vs) := by
  unfold Builtin.cap_
  split
  · rename_i _ t x h
    simp only [Prod.mk.injEq] at h
    have hx' : Cl S x := hv.get h.2
    refine av_bind (av_underlying fun d => ?_)
    split
    · exact av_pure (.int _ _)
    · refine av_bind (av_underlying fun d => ?_)
      split
      · exact av_pure (.int _ _)
      · exact av_stuck _
    · exact av_pure (.int _ _)
    · exact av_pure (.int _ _)
    · cases hx' with
      | chan r hr =>
        refine av_bind (av_getObj hr fun o ho => ?_)
        cases ho <;> exact av_stuck _
    · exact av_stuck _
  · exact av_stuck _
theorem av_max2 {x y : Value} (hx : Cl S x) : Av S P (Cl S) (Builtin.max2 x y) := by
  unfold Builtin.max2
  split
  · exact av_pure (.int _ _)
  · cases hx
  · exact av_bind (av_mono (fun v _ => av_bind (av_asBool fun b => av_pure (.string _))) av_stringOp)
  · exact av_unsupported _
  · exact av_unsupported _
  · exact av_stuck _
theorem av_min2 {x y : Value} (hx : Cl S x) : Av S P (Cl S) (Builtin.min2 x y) := by
  unfold Builtin.min2
  split
  · exact av_pure (.int _ _)
  · cases hx
  · exact av_bind (av_mono (fun v _ => av_bind (av_asBool fun b => av_pure (.string _))) av_stringOp)
  · exact av_unsupported _
  · exact av_unsupported _
  · exact av_stuck _
theorem av_foldlM {f : Value → Value → Sem Value} (hf : ∀ x y, Cl S x → Av S P (Cl S) (f x y)) : ∀ (l : List Value) (x : Value), Cl S x → Av S P (Cl S) (l.foldlM f x)
  | [], x, hx => by rw [List.foldlM_nil]; exact av_pure hx
  | y :: l, x, hx => by rw [List.foldlM_cons]; exact av_then _ (hf x y hx) fun z hz => av_foldlM hf l z hz
theorem av_max {ts : Array TypeId} {t : TypeId} {vs : Array Value} (hv : ClA S vs) : Av S P (Cl S) (Builtin.max_ ts t vs) := by
  unfold Builtin.max_
  split
  · exact av_stuck _
  · rename_i x rest h
    exact av_foldlM (fun x y hx => av_max2 hx) _ _ (hv.toList x (by rw [h]; simp))
theorem av_min {ts : Array TypeId} {t : TypeId} {vs : Array Value} (hv : ClA S vs) : Av S P (Cl S) (Builtin.min_ ts t vs) := by
  unfold Builtin.min_
  split
  · exact av_stuck _
  · rename_i x rest h
    exact av_foldlM (fun x y hx => av_min2 hx) _ _ (hv.toList x (by rw [h]; simp))
theorem av_lenOf {φ : Nat → Prop} {v : Value} (h : ∀ n, φ n) : Av S P φ (Builtin.lenOf v) := by
  unfold Builtin.lenOf
  split
  · exact av_pure (h _)
  · exact av_pure (h _)
  · exact av_stuck _
theorem str_cl (s : ByteArray) : ClA S (s.data.map fun b => Value.int .u8 b.toNat) := by
  intro x hx
  obtain ⟨b, _, rfl⟩ := Array.mem_map.1 hx
  exact .int _ _
theorem av_firstCells {φ : Array Value → Prop} {a n : Nat} {v : Value} (hv : Cl S v) (h : ∀ vs, ClA S vs → φ vs) : Av S P φ (Builtin.firstCells a n v) := by
  unfold Builtin.firstCells
  split
  · exact av_loadCells hv.slice_inv h
  · exact av_pure (h _ ClA.empty)
  · exact av_pure (h _ (str_cl _))
  · exact av_stuck _
theorem zeroCells_cl {z : Array Value} (hz : ClA S z) (n : Nat) : ClA S (Builtin.zeroCells z n) := cycle_cl hz _
theorem av_holdsCells {φ : Bool → Prop} {a : Addr} {n : Nat} (ha : S.b a.block) (h : ∀ b, φ b) : Av S P φ (Builtin.holdsCells a n) := by
  unfold Builtin.holdsCells
  refine av_bind (av_shape ha fun x => ?_)
  split <;> exact av_pure (h _)
theorem av_mayShare {φ : Bool → Prop} {a b c : Nat} {base : Option Addr} {x : Value} (hb : ∀ a, base = some a → S.b a.block) (hx : Cl S x) (h : ∀ b, φ b) : Av S P φ (Builtin.mayShare a b c base x) := by
  unfold Builtin.mayShare
  cases base with
  | none => repeat' (first | exact h _ | exact av_pure (h _) | refine av_holdsCells hx.slice_inv (fun b => ?_) | refine av_bind ?_ | refine av_pure ?_ | split | dsimp only)
  | some a =>
    have ha := hb a rfl
    have ha' : ∀ n, S.b (a.add n).block := fun n => by rw [add_block']; exact ha
    repeat' (first | exact h _ | exact av_pure (h _) | refine av_holdsCells ha (fun b => ?_) | refine av_holdsCells hx.slice_inv (fun b => ?_) | refine av_frozen (ha' _) (fun b => ?_) | refine av_bind ?_ | refine av_pure ?_ | split | dsimp only)
theorem av_copy {ts : Array TypeId} {t : TypeId} {vs : Array Value} (hv : ClA S vs) : Av S P (Cl S) (Builtin.copy_ ts t vs) := by
  unfold Builtin.copy_
  split
  · rename_i _ t d s h
    simp only [Prod.mk.injEq] at h
    have hd : Cl S d := hv.get h.2.1
    have hs : Cl S s := hv.get h.2.2
    refine av_bind (av_underlying fun ty => ?_)
    split
    · split
      · refine av_bind (av_lenOf fun n => ?_)
        dsimp only
        refine av_bind (av_sizeOf fun sz => av_bind (av_firstCells hs fun cs hcs => ?_))
        split
        · exact av_bind (av_storeCells hd.slice_inv (.int _ _) _ _ hcs.toList)
        · exact av_pure (.int _ _)
      · exact av_stuck _
    · exact av_stuck _
  · exact av_stuck _
theorem av_append (X : Prg S P) {ts : Array TypeId} {t : TypeId} {vs : Array Value} (hv : ClA S vs) : Av S P (Cl S) (Builtin.append_ ts t vs) := by
  unfold Builtin.append_
  split
  · rename_i _ st d s h
    simp only [Prod.mk.injEq] at h
    have hd : Cl S d := hv.get h.2.1
    have hs : Cl S s := hv.get h.2.2
    clear h
    refine av_bind (av_underlying fun ty => ?_)
    split
    · split
      · rename_i elem base sl sc
        refine av_bind (av_sizeOf fun sz => ?_)
        have hb : ∀ a, base = some a → S.b a.block := fun a ha => by subst ha; exact hd.slice_inv
        have hz : ∀ {v : Value}, Cl S v → ∀ n, ClA S (Builtin.zeroCells v.cells n) := fun hv n => zeroCells_cl hv.cells n
        have hst : ∀ {a : Addr} {m : Nat}, base = some a → S.b (a.add m).block := fun h => by rw [add_block']; exact hb _ h
        extract_lets j1 j2
        have h1 : ∀ u (φ : Unit → Prop), Av S P φ (j1 u) := fun u φ => av_unsupported _
        clear_value j1
        have h2 : ∀ z, Av S P (Cl S) (j2 z) := by
          intro z
          dsimp (config := { zeta := false }) only [j2]
          extract_lets j3
          have h3 : ∀ n, Av S P (Cl S) (j3 n) := by
            intro n
            dsimp (config := { zeta := false }) only [j3]
            extract_lets new need j0 j4 j5
            have h0 : ∀ u, Av S P (Cl S) (j0 u) := fun u => av_pure hd.slice_len
            clear_value j0
            have hap : Av S P (ClA S) new := by
              dsimp (config := { zeta := false }) only [new]
              split
              · exact av_firstCells hs fun _ h => h
              · split
                · exact av_pure ClA.empty
                · exact av_bind (av_zeroValue X fun v hv => av_pure (hz hv _))
            split
            · refine av_then _ hap fun cs hcs => ?_
              split
              · exact av_bind (av_storeCells (hst rfl) (h0 _) _ _ hcs.toList)
              · exact h0 _
            · refine av_bind (av_typeInfo fun i _ => ?_)
              have h4 : ∀ u, Av S P (Cl S) (j4 u) := by
                intro u
                dsimp (config := { zeta := false }) only [j4]
                refine av_bind (av_choose fun c => av_bind (av_typeInfo fun i _ => av_bind (av_askRoom (av_bind (av_firstCells hd fun old hold => av_then _ hap fun cs hcs => av_bind (av_zeroValue X fun v hv => ?_))))))
                dsimp only
                exact av_bind (av_newRow ((hold.append hcs).append (hz hv _)) fun r hr => av_pure (.slice _ _ _ hr))
              clear_value j4
              have h5 : ∀ u, Av S P (Cl S) (j5 u) := by
                intro u
                dsimp (config := { zeta := false }) only [j5]
                refine av_bind (av_typeInfo fun i _ => ?_)
                split
                · split
                  · exact av_bind (av_runtimePanic X _)
                  · refine av_bind (av_bind (av_mayShare hb hs fun b => ?_))
                    split
                    · exact av_bind (av_mark ⟨fun _ => trivial, trivial⟩ (h1 _ _))
                    · exact h1 _ _
                · exact h4 _
              clear_value j5
              split
              · exact av_bind (av_runtimePanic X _)
              · exact h5 _
          clear_value j3
          split
          · refine av_bind (av_asInt' fun l => ?_)
            change Av S P (Cl S) _
            extract_lets l' j6 j7
            have h6 : ∀ u, Av S P (Cl S) (j6 u) := fun u => av_bind (av_pure (h3 _))
            clear_value j6
            have h7 : ∀ u, Av S P (Cl S) (j7 u) := by
              intro u
              dsimp (config := { zeta := false }) only [j7]
              refine av_bind (av_typeInfo fun i _ => ?_)
              split
              · exact av_bind (av_choose fun _ => av_bind (av_runtimePanic X _))
              · exact h6 _
            clear_value j7
            split
            · exact av_bind (av_runtimePanic X _)
            · exact h7 _
          · exact av_bind (av_lenOf fun n => h3 n)
        clear_value j2
        split
        · exact av_bind (av_underlying fun d => av_bind (av_pure (h2 _)))
        · exact av_bind (av_pure (h2 _))
      · exact av_stuck _
    · exact av_stuck _
  · exact av_stuck _
end
end Go.Proofs.YtacimedkchjfnaaGreat
end

section
/-! What the operations ask for: conversions, calls, a whole operation. -/
namespace Go.Proofs.YtacimedkchjfnaaGreat
set_option linter.unusedSimpArgs false
set_option linter.unusedVariables false

section
variable {S : Sc} {P : Program}

theorem av_unsafeString (X : Prg S P) {ts : Array TypeId} {t : TypeId} {vs : Array Value} (hv : ClA S vs) : Av S P (Cl S) (Builtin.unsafeString_ ts t vs) := by
  unfold Builtin.unsafeString_
  obtain ⟨l⟩ := vs
  rcases l with _ | ⟨x, _ | ⟨y, _ | ⟨z, l⟩⟩⟩
  · exact av_stuck _
  · cases x <;> exact av_stuck _
  · cases x with
    | pointer p =>
      have hp : Cl S (.pointer p) := hv _ (by simp)
      refine av_bind (av_asInt' fun n => ?_)
      split
      · extract_lets j1 j2
        have h1 : ∀ u, Av S P (Cl S) (j1 u) := by
          intro u
          dsimp (config := { zeta := false }) only [j1]
          split
          · split
            · exact av_pure (.string _)
            · exact av_runtimePanic X _
          · split
            · exact av_pure (.string _)
            · refine av_bind (av_elemOf fun e => av_bind (av_variablesAt hp.ptr_inv fun b => ?_))
              split
              · exact av_bind (av_loadBytes (by intro s; exact av_bind (av_freeze hp.ptr_inv (av_pure (.string _)))) _ _ _ hp.ptr_inv)
              · exact av_unsupported _
        clear_value j1
        have h2 : ∀ u, Av S P (Cl S) (j2 u) := by
          intro u
          dsimp (config := { zeta := false }) only [j2]
          split
          · exact av_bind (av_unsupported _)
          · exact h1 _
        clear_value j2
        split
        · exact av_bind (av_runtimePanic X _)
        · exact h2 _
      · exact av_stuck _
    | _ => exact av_stuck _
  · cases x <;> exact av_stuck _
theorem av_unsafeSliceData {ts : Array TypeId} {t : TypeId} {vs : Array Value} (hv : ClA S vs) : Av S P (Cl S) (Builtin.unsafeSliceData_ ts t vs) := by
  unfold Builtin.unsafeSliceData_
  obtain ⟨l⟩ := vs
  rcases l with _ | ⟨x, _ | ⟨y, l⟩⟩
  · exact av_stuck _
  · cases x with
    | slice p n c =>
      cases p with
      | none => exact av_pure .ptr0
      | some a =>
        have ha : S.b a.block := (hv (.slice (some a) n c) (by simp)).slice_inv
        show Av S P (Cl S) (if c ≠ 0 then _ else _)
        split
        · exact av_pure (.ptr _ ha)
        · refine av_bind (av_viewAt ha ?_ fun b u hb => ?_)
          · rw [if_neg (by simp)]
            exact av_bind (av_elemOf fun e => av_bind (av_newObj (.view _ _ ha) fun r hr => av_pure (.ptr _ hr)))
          · rw [if_pos (by simp)]
            exact av_pure (.ptr _ ha)
    | _ => exact av_stuck _
  · cases x with
    | slice p n c => cases p <;> exact av_stuck _
    | _ => exact av_stuck _
theorem av_bytesToString {v : Value} (hv : Cl S v) : Av S P (Cl S) (Conv.bytesToString v) := by
  unfold Conv.bytesToString
  split
  · exact av_pure (.string _)
  · refine av_bind (av_loadCells hv.slice_inv fun vs hvs => ?_)
    refine av_then (fun _ => True) (av_forInA (fun c _ s => ?_) _) fun s _ => av_pure (.string _)
    split
    · exact av_pure trivial
    · exact av_stuck _
  · exact av_stuck _
theorem av_stringToBytes {e : TypeId} {s : ByteArray} : Av S P (Cl S) (Conv.stringToBytes e s) := by
  unfold Conv.stringToBytes
  refine av_bind (av_choose fun c => ?_)
  exact av_bind (av_newRow ((str_cl s).append (ClA.replicate (.int _ _) _)) fun r hr => av_bind (av_markStringish hr (av_pure (.slice _ _ _ hr))))
theorem av_seenAt {φ : Addr → Prop} {a : Addr} (ha : S.b a.block) (h : ∀ a : Addr, S.b a.block → φ a) : Av S P φ (Conv.seenAt a) := by
  unfold Conv.seenAt
  refine av_bind (av_viewAt ha (av_pure (h _ ha)) fun b u hb => ?_)
  have h' : ∀ c : Nat, φ { b with off := c } := fun c => h _ hb
  dsimp only
  repeat' (first | exact av_unsupported _ | exact av_bind (av_unsupported _) | exact av_pure (h _ hb) | exact av_pure (h' _) | refine av_program ?_ | refine av_shape hb (fun _ => ?_) | refine av_bind ?_ | refine av_pure ?_ | split | dsimp only)
theorem av_convPtr {s d : TypeId} {v : Value} (hv : Cl S v) : Av S P (Cl S) (Conv.unsafePointer s d v) := by
  unfold Conv.unsafePointer
  refine av_bind (av_underlying fun us => av_bind (av_underlying fun ud => ?_))
  split
  · exact av_pure .ptr0
  · refine av_bind (av_seenAt hv.ptr_inv fun a ha => av_bind (av_cellsIn ha fun x => ?_))
    extract_lets nothing
    clear_value nothing
    refine av_bind (av_sizeOf fun n => ?_)
    split
    · exact av_bind (av_newObj (.view _ _ ha) fun r hr => av_pure (.ptr _ hr))
    · exact av_pure (.ptr _ ha)
  · exact av_pure .ptr0
  · refine av_bind (av_seenAt hv.ptr_inv fun a ha => av_bind (av_sizeOf fun n => ?_))
    have tail : Av S P (Cl S) (do pure (.pointer (some ⟨← newObj (.view a ‹TypeId›), 0, none⟩)) : Sem Value) := av_bind (av_newObj (.view _ _ ha) fun r hr => av_pure (.ptr _ hr))
    repeat' (first | exact av_unsupported _ | exact av_bind (av_unsupported _) | exact av_pure (.ptr _ ha) | exact tail | refine av_variablesAt ha (fun _ => ?_) | refine av_program ?_ | refine av_shape ha (fun _ => ?_) | refine av_newObj (.view _ _ ha) (fun r hr => av_pure (.ptr _ hr)) | refine av_bind ?_ | refine av_pure ?_ | split | dsimp only)
  · exact av_pure hv
  · exact av_pure (.int _ _)
  · exact av_asNumber hv.ptr_inv fun _ h => h
  · exact av_unsupported _
  · exact av_unsupported _
  · exact av_unsupported _
  · exact av_stuck _
/-- Conversions, but those to floats. -/
theorem av_convert {s d : TypeId} {v : Value} (hv : Cl S v) (hd : ∀ k, P.underlying d ≠ some (.float k)) : Av S P (Cl S) (convert s d v) := by
  unfold convert
  refine av_bind (av_underlying fun us => av_bind (av_underlying' fun ud hud => ?_))
  split
  · exact av_pure (.int _ _)
  · exact absurd hud (hd _)
  · cases hv
  · cases hv
  · cases hv
  · exact av_pure (.string _)
  · exact av_pure hv
  · refine av_bind (av_underlying fun ue => ?_)
    split
    · exact av_stringToBytes
    · unfold Conv.stringToRunes
      refine av_bind (av_choose fun c => av_bind (av_newRow (ClA.append ?_ (ClA.replicate (.int _ _) _)) fun r hr => av_pure (.slice _ _ _ hr)))
      have : ∀ (b i : Nat) (s : ByteArray) (acc : Array Value), ClA S acc → ClA S (Conv.runesFrom s b i acc) := by
        intro b
        induction b with
        | zero => intro i s acc h; exact h
        | succ b ih =>
          intro i s acc h
          unfold Conv.runesFrom
          split
          · exact ih _ _ _ (h.push (.int _ _))
          · exact h
      exact this _ _ _ _ ClA.empty
    · exact av_stuck _
  · refine av_bind (av_underlying fun ue => ?_)
    split
    · exact av_bind (av_markStringish hv.slice_inv (av_pure hv))
    · exact av_unsupported _
  · refine av_bind (av_underlying fun ue => ?_)
    split
    · exact av_bytesToString hv
    · unfold Conv.runesToString
      split
      · exact av_pure (.string _)
      · refine av_bind (av_loadCells hv.slice_inv fun vs hvs => ?_)
        refine av_then (fun _ => True) (av_forInA (fun c _ s => ?_) _) fun s _ => av_pure (.string _)
        split
        · exact av_pure trivial
        · exact av_stuck _
      · exact av_stuck _
    · exact av_stuck _
  · exact av_convPtr hv
  · exact av_convPtr hv
  · exact av_unsupported _
  · exact av_unsupported _
end
end Go.Proofs.YtacimedkchjfnaaGreat
end
