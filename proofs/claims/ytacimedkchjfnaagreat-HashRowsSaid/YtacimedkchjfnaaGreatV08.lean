/- Part 8 of the proof: C7, C8, H0, H1a, H1, H2, H3, H4, H5, H6a. -/
import Derived.Test.YtacimedkchjfnaaGreatV07
import Derived.Test.YtacimedkchjfnaaGreatChecked
import Derived.Tactics
import Derived.Tactics2
import Derived.Defers
import Derived.WalkKit
import Derived.Laws.Pointers
import Derived.Laws.LoneSync
import Derived.RegionTactic
import Derived.RegionCalls
import Derived.ChangeAlike
import Derived.Below
import Derived.OwnWalk
import Derived.Laws.OwnMore
import Derived.RowKit3
import Derived.Maps.AppendAt
import Derived.WalkLawsBesides
import Derived.Lib.ConvBytes
import Derived.Deep.DeepCutAuto
import Derived.Deep.CutBlock
import Derived.Deep.LoopGhost
import Derived.Deep.QuietTactic
import Derived.Deep.RegionHeld3
import Derived.Deep.OwnRows
import Derived.Laws.MakeOwn
import Derived.Deep.AppendLies
import Derived.Deep.WholeRow
import Derived.Laws.BytesArg
import Derived.WalkSpells
import Derived.OneCell
import Derived.Deep.Draws
section
/-! A worker: its birth; its select. -/
namespace Go.Proofs.YtacimedkchjfnaaGreat
set_option linter.unusedSimpArgs false
set_option linter.unusedVariables false
set_option maxRecDepth 100000
open Go.Conc Go.RowKit Go.Conc.Lib Go.ConcR.Gen
open Go.ConcR (KK wgBlock WgAt stA smA rd wr deafBehind_cons deafBehind_one)
open Go.ConcN (WgLive)
section
variable {x : Ph} {bN bO bJ bE : Nat} {nv : Int}
theorem born24 (w : World) : stepG Tryz.prog false (born Tryz.prog (call24 x bN bO bJ bE)) w =
    .go (G ((baseD 24).at ⟨#[.pointer (some ⟨x.Wg, 0, none⟩), .pointer (some ⟨bJ, 0, none⟩), .pointer (some ⟨bN, 0, none⟩), .pointer (some ⟨bO, 0, none⟩), .pointer (some ⟨bE, 0, none⟩), undef, undef, undef, undef, undef, undef, undef, undef, undef, undef, undef, undef, undef, undef, undef, undef], []⟩ [.code body24]) [bot]) w #[] := by
  simp [born, call24, stepG, unwind, callDeferred, invoke, callFunc, Tryz.func24, Tryz.f24, seen, GStep.after, G, Frame.enter, Frame.at, baseD, bot, body24]
set_option maxHeartbeats 4000000 in
theorem child24 (B : BX x bN bO bJ bE nv) (w : World) (hwi : x.WI w) :
    GD Tryz.prog false (x.RK none none) x.D0 (Ph.AtS (AnchW x bN bO bJ bE)) 60 0 (born Tryz.prog (call24 x bN bO bJ bE)) w := by
  have T := tK x
  have hT0 : T24 x bN bO bJ bE #[.pointer (some ⟨x.Wg, 0, none⟩), .pointer (some ⟨bJ, 0, none⟩), .pointer (some ⟨bN, 0, none⟩), .pointer (some ⟨bO, 0, none⟩), .pointer (some ⟨bE, 0, none⟩), undef, undef, undef, undef, undef, undef, undef, undef, undef, undef, undef, undef, undef, undef, undef, undef] := ⟨rfl, rfl, rfl, rfl, rfl, rfl⟩
  have hh := head24 (Stop := Ph.AtS (AnchW x bN bO bJ bE)) B _ hT0 T (I := x.WI) (fun _ _ h hi => h.wi hi) (fun _ h => h) (fun _ _ _ h => ⟨rfl, h⟩) (fun _ _ h _ => ⟨rfl, h⟩) w hwi
  refine gd_c T rfl (fun w => born24 w) ?_
  simp only [body24, Tryz.f24, Option.getD_some]
  with_reducible refine gd_c T (G_running _ _) (fun _ => stepG_seq) ?_
  ((with_reducible refine gd_c T (G_running _ _) (fun _ => stepG_region) ?_); simp only [List.size_toArray, List.length_cons, List.length_nil, Nat.reduceAdd, Nat.zero_add, List.range, List.range.loop])
  (refine gd_c T rfl (fun _ => stepG_defer rfl rfl (by k_ne) rfl) ?_; (try walk_nrm))
  with_reducible refine gd_c T (G_running _ _) (fun _ => stepG_region_end) ?_
  with_reducible refine gd_c T (G_running _ _) (fun _ => stepG_block) ?_
  with_reducible refine gd_c T (G_running _ _) (fun _ => stepG_loop) ?_
  exact hh.mono (by omega)
theorem anchW_same {g : Goroutine} (h : AnchW x bN bO bJ bE g) : ∃ T, T24 x bN bO bJ bE T ∧ T[6]? = some (.chan (some x.J)) ∧ T[7]? = some (.chan (some x.E)) ∧
    ∀ w, stepG Tryz.prog false g w = stepG Tryz.prog false (G ((baseD 24).at ⟨T, ds24 x⟩ [.inRegion ops24 [0, 1, 2, 3], .code K24, .inBlock 1, .inLoop B24, .inBlock 0]) [bot]) w := by
  obtain ⟨T, o, h1, h2, h3, rfl⟩ := h
  exact ⟨T, h1, h2, h3, fun w => rfl⟩
theorem anchW_run (g : Goroutine) (h : AnchW x bN bO bJ bE g) : g.status = .running := by
  obtain ⟨T, o, h1, h2, h3, rfl⟩ := h
  rfl
theorem anchW_tries (g : Goroutine) (h : AnchW x bN bO bJ bE g) : AnchW x bN bO bJ bE { parked g x.cs .select with status := .running } := by
  obtain ⟨T, o, h1, h2, h3, rfl⟩ := h
  exact ⟨T, _, h1, h2, h3, rfl⟩
/-- The select itself. -/
theorem sel24 (hzj : x.zj = .agg #[.int .i64 0, .string ByteArray.empty]) (hze : x.ze = .agg #[]) {T : Array Value} (hT : T24 x bN bO bJ bE T) (h6 : T[6]? = some (.chan (some x.J))) (h7 : T[7]? = some (.chan (some x.E))) (w : World) :
    stepG Tryz.prog false (G ((baseD 24).at ⟨T, ds24 x⟩ [.inRegion ops24 [0, 1, 2, 3], .code K24, .inBlock 1, .inLoop B24, .inBlock 0]) [bot]) w =
      .comm (G ((baseD 24).at ⟨T, ds24 x⟩ [.inRegion ops24 [0, 1, 2, 3], .code K24, .inBlock 1, .inLoop B24, .inBlock 0]) [bot]) x.cs true .select w #[] := by
  obtain ⟨v0, v1, v2, v3, v4, v5, v6, v7, v8, v9, v10, v11, v12, v13, v14, v15, v16, v17, v18, v19, v20, rfl⟩ := arr21 T hT.size
  simp only [List.getElem?_toArray, List.getElem?_cons_succ, List.getElem?_cons_zero, Option.some.injEq] at h6 h7
  subst h6 h7
  have hl : listed Tryz.prog 24 ⟨#[v0, v1, v2, v3, v4, v5, .chan (some x.J), .chan (some x.E), v8, v9, v10, v11, v12, v13, v14, v15, v16, v17, v18, v19, v20], ds24 x⟩ (ops24.getD 0 default) w = #[] := by
    refine listed_nil ?_
    simp [ops24, B24, Tryz.f24, go_sem]
  have := stepG_comm (P := Tryz.prog) (main := false) (b := baseD 24) (a := ⟨#[v0, v1, v2, v3, v4, v5, .chan (some x.J), .chan (some x.E), v8, v9, v10, v11, v12, v13, v14, v15, v16, v17, v18, v19, v20], ds24 x⟩)
    (k := [.code K24, .inBlock 1, .inLoop B24, .inBlock 0]) (cs := [bot]) (w := w) (ops := ops24) (i := 0) (rest := [1, 2, 3]) (o := ops24.getD 0 default) (cases := x.cs) (blocking := true) (shape := .select) (w' := w) rfl rfl (by decide)
    (by
      simp [ops24, B24, Tryz.f24, go_sem, execOp, Act.eval, Ph.cs, rcase, hzj, hze]
      rfl)
  rw [this]
  exact congrArg _ hl
end
end Go.Proofs.YtacimedkchjfnaaGreat
end

section
/-! A worker: behind its select. -/
namespace Go.Proofs.YtacimedkchjfnaaGreat
set_option linter.unusedSimpArgs false
set_option linter.unusedVariables false
set_option maxRecDepth 100000
open Go.Conc Go.RowKit Go.Conc.Lib Go.ConcR.Gen
open Go.ConcR (KK wgBlock WgAt stA smA rd wr deafBehind_cons deafBehind_one)
open Go.ConcN (WgLive)
section
variable {x : Ph} {bN bO bJ bE : Nat} {nv : Int}
theorem quits24 (T : Array Value) (todo : List Item) : QuitsD Tryz.prog 2 0 (G { (baseD 24).at ⟨T, []⟩ todo with mode := .returning } [bot]) := by
  refine QuitsD.ctl (g' := G bot []) rfl (fun w => ?_) ?_
  · simp [G, stepG, unwind, doReturn, results, Frame.at, baseD, bot, Tryz.func24, Tryz.f24, seen, GStep.after, goexitEntry]
  refine QuitsD.ctl (g' := { G bot [] with status := .finished }) rfl (fun w => ?_) ⟨rfl, rfl⟩
  simp [G, stepG, unwind, bot, goexitEntry, Frame.catches]
  rfl
theorem commRes (a b : Nat) (z z' v : Value) (k : Nat) (ok : Bool) (hk : k = 0 ∨ k = 1) : commResult #[rcase a z, rcase b z'] .select (k : Int) v ok = .tuple (if k = 0 then #[goInt 0, .bool ok, v, z'] else #[goInt 1, .bool ok, z, v]) := by
  rcases hk with rfl | rfl <;> simp [commResult, rcase, List.zipIdx_cons]
theorem finish24 (T : Array Value) (v : Value) (k : Nat) (ok : Bool) (ds : List Deferred) : (G ((baseD 24).at ⟨T, ds⟩ [.inRegion ops24 [0, 1, 2, 3], .code K24, .inBlock 1, .inLoop B24, .inBlock 0]) [bot]).finishComm Tryz.prog x.cs .select (k : Int) v ok =
    G ((baseD 24).at ⟨T.setIfInBounds 8 (commResult x.cs .select (k : Int) v ok), ds⟩ [.inRegion ops24 [1, 2, 3], .code K24, .inBlock 1, .inLoop B24, .inBlock 0]) [bot] := by
  simp only [Goroutine.finishComm, G, Frame.finish_at]
  rfl
set_option maxHeartbeats 4000000 in
theorem end24 {T₀ : Array Value} (hT : T24 x bN bO bJ bE T₀) (hze : x.ze = .agg #[]) (w : World) (hwi : x.WI w) :
    ∃ m, GD Tryz.prog false (x.RK none none) x.D0 (x.AtR0 Tryz.prog) m 0 ((G ((baseD 24).at ⟨T₀, ds24 x⟩ [.inRegion ops24 [0, 1, 2, 3], .code K24, .inBlock 1, .inLoop B24, .inBlock 0]) [bot]).finishComm Tryz.prog x.cs .select 1 x.ze false) w := by
  obtain ⟨v0, v1, v2, v3, v4, v5, v6, v7, v8, v9, v10, v11, v12, v13, v14, v15, v16, v17, v18, v19, v20, rfl⟩ := arr21 T₀ hT.size
  have hf := finish24 (x := x) #[v0, v1, v2, v3, v4, v5, v6, v7, v8, v9, v10, v11, v12, v13, v14, v15, v16, v17, v18, v19, v20] x.ze 1 false (ds24 x)
  rw [show ((1 : Nat) : Int) = 1 from rfl] at hf
  rw [hf]
  have hc := commRes x.J x.E x.zj x.ze x.ze 1 false (.inr rfl)
  rw [show ((1 : Nat) : Int) = 1 from rfl] at hc
  rw [Ph.cs, hc]
  have T := tK x
  refine ⟨200, ?_⟩
  simp only [ops24, K24, B24, Tryz.f24, Option.getD_some]
  walk_nrm
  (co_applyP gd_val T rfl rfl (by k_ne) ?_ ?_ ?_; (focus (intro _ K hK; go_simp; (try w_num); exact hK)); (focus (intro _; simp [go_sem, *]; done)); (try walk_nrm))
  (co_applyP gd_val T rfl rfl (by k_ne) ?_ ?_ ?_; (focus (intro _ K hK; go_simp; (try w_num); exact hK)); (focus (intro _; simp [go_sem, *]; done)); (try walk_nrm))
  (co_applyP gd_val T rfl rfl (by k_ne) ?_ ?_ ?_; (focus (intro _ K hK; go_simp; (try w_num); exact hK)); (focus (intro _; simp [go_sem, *]; done)); (try walk_nrm))
  with_reducible refine gd_c T (G_running _ _) (fun _ => stepG_region_end) ?_
  with_reducible refine gd_c T (G_running _ _) (fun _ => stepG_block) ?_
  (refine gd_c T rfl (fun _ => stepG_cond (t := false) rfl) ?_; simp only [if_true, if_false, Bool.false_eq_true, ↓reduceIte])
  (refine gd_c T rfl (fun _ => stepG_cond (t := true) rfl) ?_; simp only [if_true, if_false, Bool.false_eq_true, ↓reduceIte])
  with_reducible refine gd_c T (G_running _ _) (fun _ => stepG_ret') ?_
  refine gd_c T rfl (fun w => stepG_unwind_enter rfl Tryz.func25 cn25 rfl) ?_
  have hd := done_walk (x := x) (c := { (baseD 24).at ⟨#[v0, v1, v2, v3, v4, v5, v6, v7, .tuple #[goInt 1, .bool false, x.zj, x.ze], .int .i64 1, .bool false, .bool true, v12, v13, v14, v15, v16, v17, v18, v19, v20], []⟩ [.code .ret, .inBlock 2, .inBlock 1, .inLoop B24, .inBlock 0] with mode := .returning }) (cs := [bot]) rfl (quits24 _ _) w hwi
  simp only [B24, Tryz.f24, Option.getD_some] at hd
  exact hd.mono (by omega)
end
end Go.Proofs.YtacimedkchjfnaaGreat
end

section
/-! sync.Once, sync.Mutex: alone. -/
namespace Go.Proofs.YtacimedkchjfnaaGreat
set_option linter.unusedSimpArgs false
set_option linter.unusedVariables false

theorem disable (w : World) : (callFunc 32 #[]).run Tryz.prog w = .ok (.value (.tuple #[])) w := run_call_mark0 Tryz.func32 (by kernel_rfl) (by kernel_rfl) (by kernel_rfl) .disable (by kernel_rfl) w
theorem enable (w : World) : (callFunc 33 #[]).run Tryz.prog w = .ok (.value (.tuple #[])) w := run_call_mark0 Tryz.func33 (by kernel_rfl) (by kernel_rfl) (by kernel_rfl) .enable (by kernel_rfl) w
theorem acquire (a : Addr) (w : World) : (callFunc 44 #[.pointer (some a)]).run Tryz.prog w = .ok (.value (.tuple #[])) w := run_call_marked Tryz.func44 (by kernel_rfl) (by kernel_rfl) (by kernel_rfl) .acquire (by kernel_rfl) a w
theorem releaseMerge (a : Addr) (w : World) : (callFunc 31 #[.pointer (some a)]).run Tryz.prog w = .ok (.value (.tuple #[])) w := run_call_marked Tryz.func31 (by kernel_rfl) (by kernel_rfl) (by kernel_rfl) .releaseMerge (by kernel_rfl) a w

/-- '(*sync/atomic.Bool).Store(true)', ENTERED AS A DEFERRED CALL: the cell holds 1. -/
theorem store_deferred (a : Addr) (x : Value) (u : FrameMode) (w : World) (hc : w.cell? a = some x) (hz : w.frozen? a = false) :
    CallsD Tryz.prog 61 #[.pointer (some a), .bool true] u w fun e u' w' => u' = u ∧ (e = .returned (.tuple #[]) ∧ w' = w.drew.setCell a (.int .u32 1)) := by
  have hc' : w.drew.cell? a = some x := by go_simp
  have hz' : w.drew.frozen? a = false := by go_simp
  have hst := run_call_store (P := Tryz.prog) Tryz.func66 (by kernel_rfl) (by kernel_rfl) (by kernel_rfl) (by kernel_rfl) (k := .u32) (y := 1) hc' hz'
  go_enter_d Tryz.func61, Tryz.ntmps61
  go_wp2
  go_region_calls
  all_goals (go_end0; exact ⟨rfl, rfl⟩)

set_option maxRecDepth 100000 in
theorem iunlock (a : Addr) (w : World) (hc : w.cell? a = some (.int .i32 1)) (hz : w.frozen? a = false) :
    Calls Tryz.prog 65 #[.pointer (some a)] w fun e w' => e = .returned (.tuple #[]) ∧ w' = w.setCell a (.int .i32 0) := by
  have hd := disable
  have he := enable
  have hr := releaseMerge
  have hadd := run_call_add (P := Tryz.prog) Tryz.func72 (by kernel_rfl) (by kernel_rfl) (by kernel_rfl) .i32 (by kernel_rfl) (y := -1) (s := 0) hc hz (by simp [go_sem]; rfl)
  have hcv := run_convert_to_unsafe (P := Tryz.prog) (src := 132) (dst := 81) Tryz.underlying132 Tryz.underlying81 (by kernel_rfl) hc
  go_enter Tryz.func65, Tryz.ntmps65
  go_wp2
  go_end0
  exact ⟨rfl, rfl⟩
set_option maxRecDepth 100000 in
theorem ilock (a : Addr) (w : World) (hc : w.cell? a = some (.int .i32 0)) (hz : w.frozen? a = false) :
    Calls Tryz.prog 64 #[.pointer (some a)] w fun e w' => e = .returned (.tuple #[]) ∧ w' = w.setCell a (.int .i32 1) := by
  have hd := disable
  have he := enable
  have ha := acquire
  have hcas := run_call_cas_hit (P := Tryz.prog) Tryz.func70 (by kernel_rfl) (by kernel_rfl) (by kernel_rfl) .i32 (by kernel_rfl) (y := 1) hc hz
  have hc' : (w.setCell a (.int .i32 1)).cell? a = some (.int .i32 1) := World.cell?_setCell_same w a _ hc
  have hcv := run_convert_to_unsafe (P := Tryz.prog) (src := 132) (dst := 81) Tryz.underlying132 Tryz.underlying81 (by kernel_rfl) hc'
  go_enter Tryz.func64, Tryz.ntmps64
  go_wp2
  first | go_end0 | (simp only [Exit.inBlock, Exit.then]; refine bodyPost_ret (results_none rfl _ _ _) rfl ?_) | refine bodyPost_ret (results_none rfl _ _ _) rfl ?_
  exact ⟨rfl, rfl⟩
/-- '(*sync.Mutex).Unlock', ENTERED AS A DEFERRED CALL, the lock held and nobody waiting (state 1): state 0. -/
theorem unlock_deferred (a : Addr) (u : FrameMode) (w : World) (hc : w.cell? a = some (.int .i32 1)) (hz : w.frozen? a = false) :
    CallsD Tryz.prog 60 #[.pointer (some a)] u w fun e u' w' => u' = u ∧ (e = .returned (.tuple #[]) ∧ w' = w.setCell a (.int .i32 0)) := by
  go_enter_d Tryz.func60, Tryz.ntmps60
  go_wp2_with fail
  refine (iunlock a w hc hz).mono ?_
  rintro e w' ⟨rfl, rfl⟩
  go_wp2
  go_end0
  exact ⟨rfl, rfl⟩
/-- '(*sync.Mutex).Lock', the lock free (state 0): state 1. -/
theorem lock_free (a : Addr) (w : World) (hc : w.cell? a = some (.int .i32 0)) (hz : w.frozen? a = false) :
    Calls Tryz.prog 59 #[.pointer (some a)] w fun e w' => e = .returned (.tuple #[]) ∧ w' = w.setCell a (.int .i32 1) := by
  go_enter Tryz.func59, Tryz.ntmps59
  go_wp2_with fail
  refine (ilock a w hc hz).mono ?_
  rintro e w' ⟨rfl, rfl⟩
  go_wp2
  go_end0
  exact ⟨rfl, rfl⟩
end Go.Proofs.YtacimedkchjfnaaGreat
end

section
/-! A replacer of bytes that is being built: its cells. -/
namespace Go.Proofs.YtacimedkchjfnaaGreat
open Go.RowKit
set_option linter.unusedSimpArgs false
set_option linter.unusedVariables false

structure Asd (p : Prop) : Prop where mk :: (out : p)

/-- Nothing has turned but in F; new blocks may be there. -/
structure Fr (F : Nat → Prop) (w w' : World) : Prop where
  size : w.heap.size ≤ w'.heap.size
  block : ∀ k, k < w.heap.size → ¬ F k → w'.heap[k]? = w.heap[k]?
theorem Fr.refl (F : Nat → Prop) (w : World) : Fr F w w := ⟨Nat.le_refl _, fun _ _ _ => rfl⟩
theorem Fr.alloc {F : Nat → Prop} {w w' : World} (h : Fr F w w') (o : Obj) : Fr F w (w'.alloc o) :=
  ⟨by have := h.size; simp; omega, fun i hi hf => by rw [Below.heap_alloc _ _ _ (Nat.lt_of_lt_of_le hi h.size)]; exact h.block i hi hf⟩
theorem Fr.setCell {F : Nat → Prop} {w w' : World} (h : Fr F w w') {p : Addr} (hp : F p.block) (u : Value) : Fr F w (w'.setCell p u) :=
  ⟨by have := h.size; simpa [World.setCell] using this, fun i hi hf => by
    rw [Below.heap_setCell _ _ _ _ (fun e => by subst e; exact hf hp)]; exact h.block i hi hf⟩
theorem Fr.bytes {F : Nat → Prop} {w w' : World} (h : Fr F w w') (e : TypeId) (s : ByteArray) : Fr F w (Lib.bytesWorld w' e s) :=
  ⟨by have := h.size; rw [Lib.bytesWorld_size]; omega, fun i hi hf => by
    rw [Lib.bytesWorld_at_old _ _ _ _ (Nat.lt_of_lt_of_le hi h.size)]; exact h.block i hi hf⟩
theorem Fr.below {F : Nat → Prop} {w w' w'' : World} (h : Fr F w w') (hb : Below w'.heap.size w' w'') : Fr F w w'' :=
  ⟨Nat.le_trans h.size hb.size, fun i hi hf => (hb.block i (Nat.lt_of_lt_of_le hi h.size)).trans (h.block i hi hf)⟩
theorem cell_fr {W W' : World} {F : Nat → Prop} {p : Addr} {v : Value} (h : W.cell? p = some v) (hf : Fr F W W') (hp : ¬ F p.block) : W'.cell? p = some v := by
  have hl := World.block_lt_of_cell? W _ h
  rw [← h]
  unfold World.cell?
  rw [hf.block p.block hl hp]
theorem frozen_fr {W W' : World} {F : Nat → Prop} {p : Addr} (hl : p.block < W.heap.size) (hf : Fr F W W') (hp : ¬ F p.block) : W'.frozen? p = W.frozen? p := by
  unfold World.frozen?
  rw [hf.block p.block hl hp]
theorem bytes_below {B : Nat} {w W : World} (h : Below B w W) (hB : B ≤ W.heap.size) (e : TypeId) (s : ByteArray) : Below B w (Lib.bytesWorld W e s) :=
  ⟨h.os, h.tape, h.output, by have := h.size; rw [Lib.bytesWorld_size]; omega, fun k hk => (Lib.bytesWorld_at_old _ _ _ _ (Nat.lt_of_lt_of_le hk hB)).trans (h.block k hk)⟩

/-- A row of bytes. -/
def RowB (W : World) (h : Nat) (s : ByteArray) : Prop := h < W.heap.size ∧ ∀ i, i < s.size → W.cell? ⟨h, i, none⟩ = some (.int .u8 (s.data.toList.getD i 0).toNat)
theorem RowB.fr {W W' : World} {F : Nat → Prop} {h : Nat} {s : ByteArray} (H : RowB W h s) (hf : Fr F W W') (hh : ¬ F h) : RowB W' h s :=
  ⟨Nat.lt_of_lt_of_le H.1 hf.size, fun i hi => cell_fr (H.2 i hi) hf hh⟩
theorem RowB.new (W : World) (s : ByteArray) : RowB (Lib.bytesWorld W 5 s) W.heap.size s := ⟨by rw [Lib.bytesWorld_size]; omega, fun i hi => Lib.bytesWorld_cell W 5 s i hi⟩
end Go.Proofs.YtacimedkchjfnaaGreat
end

section
/-! The replacer: build. -/
namespace Go.Proofs.YtacimedkchjfnaaGreat
open Go.RowKit
set_option linter.unusedSimpArgs false
set_option linter.unusedVariables false

theorem info9 : (Tryz.prog.info? 9).map (fun i => (i.zero, i.size, i.bytes)) = some (some (.string ⟨#[]⟩), 1, 16) := by kernel_rfl
theorem info5 : (Tryz.prog.info? 5).map (fun i => (i.zero, i.size, i.bytes)) = some (some (.int .u8 0), 1, 1) := by kernel_rfl
theorem z85size : Tryz.zeroCells116.size = 257 := by kernel_rfl
def isNil : Value → Bool
  | .slice none 0 0 => true
  | _ => false
theorem z85one : Tryz.zeroCells116.toList.all isNil = true := by kernel_rfl
theorem info116 : (Tryz.prog.info? 116).map (·.size) = some 257 := by kernel_rfl
def b1 : ByteArray := ⟨#[92]⟩
def b2 : ByteArray := ⟨#[92, 92]⟩
def b3 : ByteArray := ⟨#[58]⟩
def b4 : ByteArray := ⟨#[92, 58]⟩

/-- The replacer of bytes, built. -/
structure BRep (W : World) (sb : Nat) : Prop where
  nil : ∀ j, j < 256 → j ≠ 58 → j ≠ 92 → W.cell? ⟨sb, j, none⟩ = some (.slice none 0 0)
  r58 : ∃ h c, W.cell? ⟨sb, 58, none⟩ = some (.slice (some ⟨h, 0, none⟩) 2 c) ∧ RowB W h b4
  r92 : ∃ h c, W.cell? ⟨sb, 92, none⟩ = some (.slice (some ⟨h, 0, none⟩) 2 c) ∧ RowB W h b2
  t : ∃ tb, W.cell? ⟨sb, 256, none⟩ = some (.slice (some ⟨tb, 0, none⟩) 2 2) ∧ W.cell? ⟨tb, 0, none⟩ = some (.string b3) ∧ W.cell? ⟨tb, 1, none⟩ = some (.string b1)
/-- After so much of it: the row of bytes that are replaced, and what replaces them. -/
structure Bld (w W : World) (sb tb g n : Nat) (s1 s2 s3 s4 t0 t1 : ByteArray) (v58 v92 : Value) : Prop where
  g0 : W.cell? ⟨g, 0, none⟩ = some (.string s1)
  g1 : W.cell? ⟨g, 1, none⟩ = some (.string s2)
  g2 : W.cell? ⟨g, 2, none⟩ = some (.string s3)
  g3 : W.cell? ⟨g, 3, none⟩ = some (.string s4)
  nil : ∀ j, j < 256 → j ≠ 58 → j ≠ 92 → W.cell? ⟨sb, j, none⟩ = some (.slice none 0 0)
  c58 : W.cell? ⟨sb, 58, none⟩ = some v58
  c92 : W.cell? ⟨sb, 92, none⟩ = some v92
  ct : W.cell? ⟨sb, 256, none⟩ = some (.slice (some ⟨tb, 0, none⟩) n 2)
  t0 : W.cell? ⟨tb, 0, none⟩ = some (.string t0)
  t1 : W.cell? ⟨tb, 1, none⟩ = some (.string t1)
  sf : ∀ i, W.frozen? ⟨sb, i, none⟩ = false
  tf : ∀ i, W.frozen? ⟨tb, i, none⟩ = false
  lg : g < w.heap.size
  lt : w.heap.size ≤ tb
  ls : tb < sb
  ll : sb < W.heap.size
  bel : Below w.heap.size w W
theorem Bld.alloc {w W : World} {sb tb g n : Nat} {s1 s2 s3 s4 t0 t1 : ByteArray} {v58 v92 : Value} (H : Bld w W sb tb g n s1 s2 s3 s4 t0 t1 v58 v92) {W' : World} (hf : Fr (fun _ => False) W W') (hb : Below w.heap.size w W') : Bld w W' sb tb g n s1 s2 s3 s4 t0 t1 v58 v92 :=
  ⟨cell_fr H.g0 hf id, cell_fr H.g1 hf id, cell_fr H.g2 hf id, cell_fr H.g3 hf id, fun j h1 h2 h3 => cell_fr (H.nil j h1 h2 h3) hf id, cell_fr H.c58 hf id, cell_fr H.c92 hf id, cell_fr H.ct hf id, cell_fr H.t0 hf id, cell_fr H.t1 hf id,
    fun i => (frozen_fr (p := ⟨sb, i, none⟩) H.ll hf id).trans (H.sf i), fun i => (frozen_fr (p := ⟨tb, i, none⟩) (Nat.lt_trans H.ls H.ll) hf id).trans (H.tf i), H.lg, H.lt, H.ls, Nat.lt_of_lt_of_le H.ll hf.size, hb⟩
theorem Bld.al {w W : World} {sb tb g n : Nat} {s1 s2 s3 s4 t0 t1 : ByteArray} {v58 v92 : Value} (H : Bld w W sb tb g n s1 s2 s3 s4 t0 t1 v58 v92) (o : Obj) : Bld w (W.alloc o) sb tb g n s1 s2 s3 s4 t0 t1 v58 v92 := H.alloc ((Fr.refl _ W).alloc o) (H.bel.alloc H.bel.size o)
theorem Bld.by {w W : World} {sb tb g n : Nat} {s1 s2 s3 s4 t0 t1 : ByteArray} {v58 v92 : Value} (H : Bld w W sb tb g n s1 s2 s3 s4 t0 t1 v58 v92) (s : ByteArray) : Bld w (Lib.bytesWorld W 5 s) sb tb g n s1 s2 s3 s4 t0 t1 v58 v92 := H.alloc ((Fr.refl _ W).bytes 5 s) (bytes_below H.bel H.bel.size 5 s)
theorem Bld.sets {w W : World} {sb tb g n n' : Nat} {s1 s2 s3 s4 t0 t1 t0' t1' : ByteArray} {v58 v92 v58' v92' : Value} {p : Addr} {u : Value} (H : Bld w W sb tb g n s1 s2 s3 s4 t0 t1 v58 v92) (hp : p.block = sb ∨ p.block = tb)
    (hn : ∀ j, j < 256 → j ≠ 58 → j ≠ 92 → p ≠ ⟨sb, j, none⟩) (h58 : (W.setCell p u).cell? ⟨sb, 58, none⟩ = some v58') (h92 : (W.setCell p u).cell? ⟨sb, 92, none⟩ = some v92') (hct : (W.setCell p u).cell? ⟨sb, 256, none⟩ = some (.slice (some ⟨tb, 0, none⟩) n' 2))
    (ht0 : (W.setCell p u).cell? ⟨tb, 0, none⟩ = some (.string t0')) (ht1 : (W.setCell p u).cell? ⟨tb, 1, none⟩ = some (.string t1')) : Bld w (W.setCell p u) sb tb g n' s1 s2 s3 s4 t0' t1' v58' v92' := by
  have hl := H.lg
  have h2 := H.lt
  have h3 := H.ls
  have hf : Fr (fun k => k = sb ∨ k = tb) W (W.setCell p u) := (Fr.refl _ W).setCell (F := fun k => k = sb ∨ k = tb) hp u
  have hg : ¬ (g = sb ∨ g = tb) := by omega
  exact ⟨cell_fr H.g0 hf hg, cell_fr H.g1 hf hg, cell_fr H.g2 hf hg, cell_fr H.g3 hf hg, fun j a b c => (World.cell?_setCell_other W p ⟨sb, j, none⟩ u (hn j a b c)).trans (H.nil j a b c), h58, h92, hct, ht0, ht1,
    fun i => by simp [H.sf], fun i => by simp [H.tf], hl, h2, h3, Nat.lt_of_lt_of_le H.ll hf.size, H.bel.setCell (by rcases hp with h | h <;> omega) u⟩
theorem Bld.set58 {w W : World} {sb tb g n : Nat} {s1 s2 s3 s4 t0 t1 : ByteArray} {v58 v92 : Value} (H : Bld w W sb tb g n s1 s2 s3 s4 t0 t1 v58 v92) (u : Value) : Bld w (W.setCell ⟨sb, 58, none⟩ u) sb tb g n s1 s2 s3 s4 t0 t1 u v92 := by
  have h3 := H.ls
  have ne : ∀ i, (⟨sb, 58, none⟩ : Addr) ≠ ⟨tb, i, none⟩ := fun i e => by injection e with e; omega
  exact H.sets (.inl rfl) (fun j _ h _ e => h (by injection e with _ e; exact e.symm)) (World.cell?_setCell_same W _ _ H.c58) ((World.cell?_setCell_other W _ _ u (by simp)).trans H.c92) ((World.cell?_setCell_other W _ _ u (by simp)).trans H.ct) ((World.cell?_setCell_other W _ _ u (ne 0)).trans H.t0) ((World.cell?_setCell_other W _ _ u (ne 1)).trans H.t1)
theorem Bld.set92 {w W : World} {sb tb g n : Nat} {s1 s2 s3 s4 t0 t1 : ByteArray} {v58 v92 : Value} (H : Bld w W sb tb g n s1 s2 s3 s4 t0 t1 v58 v92) (u : Value) : Bld w (W.setCell ⟨sb, 92, none⟩ u) sb tb g n s1 s2 s3 s4 t0 t1 v58 u := by
  have h3 := H.ls
  have ne : ∀ i, (⟨sb, 92, none⟩ : Addr) ≠ ⟨tb, i, none⟩ := fun i e => by injection e with e; omega
  exact H.sets (.inl rfl) (fun j _ _ h e => h (by injection e with _ e; exact e.symm)) ((World.cell?_setCell_other W _ _ u (by simp)).trans H.c58) (World.cell?_setCell_same W _ _ H.c92) ((World.cell?_setCell_other W _ _ u (by simp)).trans H.ct) ((World.cell?_setCell_other W _ _ u (ne 0)).trans H.t0) ((World.cell?_setCell_other W _ _ u (ne 1)).trans H.t1)
theorem Bld.setT {w W : World} {sb tb g n : Nat} {s1 s2 s3 s4 t0 t1 : ByteArray} {v58 v92 : Value} (H : Bld w W sb tb g n s1 s2 s3 s4 t0 t1 v58 v92) (m : Nat) : Bld w (W.setCell ⟨sb, 256, none⟩ (.slice (some ⟨tb, 0, none⟩) m 2)) sb tb g m s1 s2 s3 s4 t0 t1 v58 v92 := by
  have h3 := H.ls
  have ne : ∀ i, (⟨sb, 256, none⟩ : Addr) ≠ ⟨tb, i, none⟩ := fun i e => by injection e with e; omega
  exact H.sets (.inl rfl) (fun j h _ _ e => by injection e with _ e; omega) ((World.cell?_setCell_other W _ _ _ (by simp)).trans H.c58) ((World.cell?_setCell_other W _ _ _ (by simp)).trans H.c92) (World.cell?_setCell_same W _ _ H.ct) ((World.cell?_setCell_other W _ _ _ (ne 0)).trans H.t0) ((World.cell?_setCell_other W _ _ _ (ne 1)).trans H.t1)
theorem Bld.put0 {w W : World} {sb tb g n : Nat} {s1 s2 s3 s4 t0 t1 : ByteArray} {v58 v92 : Value} (H : Bld w W sb tb g n s1 s2 s3 s4 t0 t1 v58 v92) (x : ByteArray) : Bld w (W.setCell ⟨tb, 0, none⟩ (.string x)) sb tb g n s1 s2 s3 s4 x t1 v58 v92 := by
  have h3 := H.ls
  have ne : ∀ i, (⟨tb, 0, none⟩ : Addr) ≠ ⟨sb, i, none⟩ := fun i e => by injection e with e; omega
  exact H.sets (.inr rfl) (fun j _ _ _ => ne j) ((World.cell?_setCell_other W _ _ _ (ne _)).trans H.c58) ((World.cell?_setCell_other W _ _ _ (ne _)).trans H.c92) ((World.cell?_setCell_other W _ _ _ (ne _)).trans H.ct) (World.cell?_setCell_same W _ _ H.t0) ((World.cell?_setCell_other W _ _ _ (by simp)).trans H.t1)
theorem Bld.put1 {w W : World} {sb tb g n : Nat} {s1 s2 s3 s4 t0 t1 : ByteArray} {v58 v92 : Value} (H : Bld w W sb tb g n s1 s2 s3 s4 t0 t1 v58 v92) (x : ByteArray) : Bld w (W.setCell ⟨tb, 1, none⟩ (.string x)) sb tb g n s1 s2 s3 s4 t0 x v58 v92 := by
  have h3 := H.ls
  have ne : ∀ i, (⟨tb, 1, none⟩ : Addr) ≠ ⟨sb, i, none⟩ := fun i e => by injection e with e; omega
  exact H.sets (.inr rfl) (fun j _ _ _ => ne j) ((World.cell?_setCell_other W _ _ _ (ne _)).trans H.c58) ((World.cell?_setCell_other W _ _ _ (ne _)).trans H.c92) ((World.cell?_setCell_other W _ _ _ (ne _)).trans H.ct) ((World.cell?_setCell_other W _ _ _ (by simp)).trans H.t0) (World.cell?_setCell_same W _ _ H.t1)
theorem z85get {j : Nat} (h : j < 257) : Tryz.zeroCells116.toList[j]? = some (.slice none 0 0) := by
  have hl : Tryz.zeroCells116.toList.length = 257 := by rw [Array.length_toList]; exact z85size
  obtain ⟨v, hv⟩ : ∃ v, Tryz.zeroCells116.toList[j]? = some v := ⟨_, List.getElem?_eq_getElem (by omega)⟩
  have h1 := List.all_eq_true.1 z85one v (List.mem_of_getElem? hv)
  rw [hv]
  unfold isNil at h1
  split at h1
  · rfl
  · simp at h1
theorem z85set {j : Nat} (h : j < 256) (u : Value) : (Tryz.zeroCells116.toList.set 256 u).toArray[j]? = some (.slice none 0 0) := by
  rw [List.getElem?_toArray, List.getElem?_set_ne (by omega)]
  exact z85get (by omega)
theorem z85last (u : Value) : (Tryz.zeroCells116.toList.set 256 u).toArray[256]? = some u := by
  have hl : Tryz.zeroCells116.toList.length = 257 := (Array.length_toList ..).trans z85size
  rw [List.getElem?_toArray, List.getElem?_set_self (Nat.lt_of_lt_of_eq (by decide) hl.symm)]
theorem z85store (w : World) (u : Value) (hu : u.oneCell' = true) : (storeCells ⟨w.heap.size, 0, none⟩ (Tryz.zeroCells116.toList.set 256 u)).run Tryz.prog (w.alloc (.cells Tryz.zeroCells116 116)) = .ok () (w.alloc (.cells (Tryz.zeroCells116.toList.set 256 u).toArray 116)) := by
  have hs : (Tryz.zeroCells116.toList.set 256 u).toArray.size = 257 := by
    rw [List.size_toArray, List.length_set, Array.length_toList]
    exact z85size
  have hone : ∀ i, i < 257 → ∃ v, (Tryz.zeroCells116.toList.set 256 u).toArray[i]? = some v ∧ v.oneCell' = true := by
    intro i hi
    rcases Nat.lt_or_ge i 256 with h3 | h3
    · exact ⟨_, z85set h3 u, rfl⟩
    · obtain rfl : i = 256 := by omega
      exact ⟨u, z85last u, hu⟩
  have hall : (Tryz.zeroCells116.toList.set 256 u).toArray.all (·.oneCell') = true := by
    rw [Array.all_eq_true]
    intro i hi
    obtain ⟨v, hv, h1⟩ := hone i (by omega)
    have h2 := Array.getElem?_eq_getElem hi
    rw [hv] at h2
    injection h2 with h2
    rw [← h2]
    exact h1
  have h := run_storeCells_new (P := Tryz.prog) w 116 Tryz.zeroCells116 (Tryz.zeroCells116.toList.set 256 u).toArray (info116.trans (congrArg some hs.symm)) (z85size.trans hs.symm) hall
  exact h
theorem bld_init (w : World) (g : Nat) (s1 s2 s3 s4 : ByteArray) (h0 : w.cell? ⟨g, 0, none⟩ = some (.string s1)) (h1 : w.cell? ⟨g, 1, none⟩ = some (.string s2)) (h2 : w.cell? ⟨g, 2, none⟩ = some (.string s3)) (h3 : w.cell? ⟨g, 3, none⟩ = some (.string s4)) :
    Bld w ((w.alloc (.cells #[.string ⟨#[]⟩, .string ⟨#[]⟩] 9)).alloc (.cells (Tryz.zeroCells116.toList.set 256 (.slice (some ⟨w.heap.size, 0, none⟩) 0 2)).toArray 116)) (w.alloc (.cells #[.string ⟨#[]⟩, .string ⟨#[]⟩] 9)).heap.size w.heap.size g 0 s1 s2 s3 s4 ⟨#[]⟩ ⟨#[]⟩ (.slice none 0 0) (.slice none 0 0) := by
  have hg : g < w.heap.size := World.block_lt_of_cell? _ _ h0
  have hf : Fr (fun _ => False) w ((w.alloc (.cells #[.string ⟨#[]⟩, .string ⟨#[]⟩] 9)).alloc (.cells (Tryz.zeroCells116.toList.set 256 (.slice (some ⟨w.heap.size, 0, none⟩) 0 2)).toArray 116)) := ((Fr.refl _ w).alloc _).alloc _
  have hsb := heap_alloc_new (w.alloc (.cells #[.string ⟨#[]⟩, .string ⟨#[]⟩] 9)) (.cells (Tryz.zeroCells116.toList.set 256 (.slice (some ⟨w.heap.size, 0, none⟩) 0 2)).toArray 116)
  have htb := (Below.heap_alloc (w.alloc (.cells #[.string ⟨#[]⟩, .string ⟨#[]⟩] 9)) (.cells (Tryz.zeroCells116.toList.set 256 (.slice (some ⟨w.heap.size, 0, none⟩) 0 2)).toArray 116) w.heap.size (by simp)).trans (heap_alloc_new w _)
  refine ⟨cell_fr h0 hf id, cell_fr h1 hf id, cell_fr h2 hf id, cell_fr h3 hf id, fun j a _ _ => (cell_of_row _ _ j _ _ _ hsb).trans (z85set a _), (cell_of_row _ _ 58 _ _ _ hsb).trans (z85set (by omega) _), (cell_of_row _ _ 92 _ _ _ hsb).trans (z85set (by omega) _), (cell_of_row _ _ 256 _ _ _ hsb).trans (z85last _), cell_of_row _ _ 0 _ _ _ htb, cell_of_row _ _ 1 _ _ _ htb, fun i => ?_, fun i => ?_, hg, Nat.le_refl _, by simp, by simp, ((Below.refl _ w).alloc (Nat.le_refl _) _).alloc (by simp) _⟩
  · unfold World.frozen?; rw [hsb]; simp
  · unfold World.frozen?; rw [htb]; simp
theorem conv58 (w : World) : (convert 40 9 (.slice (some ⟨w.heap.size, 0, none⟩) 1 1)).run Tryz.prog (w.alloc (.cells #[.int .u8 58] 5)) = .ok (.string b3) (w.alloc (.cells #[.int .u8 58] 5)) :=
  run_convert_bytes_arg (P := Tryz.prog) _ 40 5 Tryz.underlying40 Tryz.underlying5 w.heap.size 0 1 1 [58] rfl (fun j hj => by
    match j, hj with
    | 0, _ => exact cell_of_row _ _ 0 _ _ _ (heap_alloc_new _ _)) 9 Tryz.underlying9
theorem conv92 (w : World) : (convert 40 9 (.slice (some ⟨w.heap.size, 0, none⟩) 1 1)).run Tryz.prog (w.alloc (.cells #[.int .u8 92] 5)) = .ok (.string b1) (w.alloc (.cells #[.int .u8 92] 5)) :=
  run_convert_bytes_arg (P := Tryz.prog) _ 40 5 Tryz.underlying40 Tryz.underlying5 w.heap.size 0 1 1 [92] rfl (fun j hj => by
    match j, hj with
    | 0, _ => exact cell_of_row _ _ 0 _ _ _ (heap_alloc_new _ _)) 9 Tryz.underlying9
set_option maxRecDepth 20000 in
set_option maxHeartbeats 4000000 in
theorem build_calls (w : World) (rb g c : Nat) (x0 x1 x2 x3 : Value)
    (hr : w.heap[rb]? = some (.cells #[x0, x1, x2, x3, .slice (some ⟨g, 0, none⟩) 4 c] 76 (0, 0)))
    (h0 : w.cell? ⟨g, 0, none⟩ = some (.string b1)) (h1 : w.cell? ⟨g, 1, none⟩ = some (.string b2)) (h2 : w.cell? ⟨g, 2, none⟩ = some (.string b3)) (h3 : w.cell? ⟨g, 3, none⟩ = some (.string b4)) :
    Calls Tryz.prog 52 #[.pointer (some ⟨rb, 0, none⟩)] w fun e w' => ∃ sb, e = .returned (.iface 117 (.pointer (some ⟨sb, 0, none⟩))) ∧ BRep w' sb ∧ Below w.heap.size w w' := by
  have r4 : w.cell? ⟨rb, 4, none⟩ = some (.slice (some ⟨g, 0, none⟩) 4 c) := by unfold World.cell?; rw [hr]; rfl
  have BI := Asd.mk (bld_init w g b1 b2 b3 b4 h0 h1 h2 h3)
  have hst := z85store (w.alloc (.cells #[.string ⟨#[]⟩, .string ⟨#[]⟩] 9)) (.slice (some ⟨w.heap.size, 0, none⟩) 0 2) rfl
  have FIN : Asd (∀ W sb tb h c h' c', Bld w W sb tb g 2 b1 b2 b3 b4 b3 b1 (.slice (some ⟨h, 0, none⟩) 2 c) (.slice (some ⟨h', 0, none⟩) 2 c') → RowB W h b4 → RowB W h' b2 → BRep W sb ∧ Below w.heap.size w W) :=
    ⟨fun W sb tb h c h' c' H r1 r2 => ⟨⟨H.nil, ⟨h, c, H.c58, r1⟩, ⟨h', c', H.c92, r2⟩, ⟨tb, H.ct, H.t0, H.t1⟩⟩, H.bel⟩⟩
  have sz1 : b1.size = 1 := rfl
  have sz2 : b2.size = 2 := rfl
  have sz3 : b3.size = 1 := rfl
  have sz4 : b4.size = 2 := rfl
  clear hr
  have by1 : ∀ h, (b1[0]'h).toNat = 92 := fun _ => rfl
  have by3 : ∀ h, (b3[0]'h).toNat = 58 := fun _ => rfl
  have cv58 := conv58
  have cv92 := conv92
  generalize b1 = s1 at *
  generalize b2 = s2 at *
  generalize b3 = s3 at *
  generalize b4 = s4 at *
  obtain ⟨i0, hi, hz0, hz1, hz2⟩ := info_parts info9
  have hrun : (Instr.makeSlice 22 (.int .i64 0) (.int .i64 2)).run Tryz.prog w = .ok (.slice (some ⟨w.heap.size, 0, none⟩) 0 2) (w.alloc (.cells #[.string ⟨#[]⟩, .string ⟨#[]⟩] 9)) := by
    have h := run_make (P := Tryz.prog) w 22 9 i0 (.string ⟨#[]⟩) Tryz.underlying22 hi hz0 .i64 .i64 0 2 (by omega) (by omega) (by rw [hz2]; omega) (by omega)
    rw [hz1] at h
    have hm : madeCells (Value.string ⟨#[]⟩).cells ((2 : Int).toNat * 1) = #[.string ⟨#[]⟩, .string ⟨#[]⟩] := by kernel_rfl
    rw [hm] at h
    exact h
  generalize (w.alloc (.cells #[.string ⟨#[]⟩, .string ⟨#[]⟩] 9)) = w1 at *
  have t10 : ((1 : Nat) != 1) = false := rfl
  go_enter Tryz.func52, Tryz.ntmps52
  go_wp2_with fail
  go_loopg [4, 5] 2 (fun kq v4 v5 wr => wr = w ∧ ((kq = 2 ∧ v4 = .bool true ∧ v5 = .int .i64 0) ∨ (kq = 1 ∧ v4 = .bool false ∧ v5 = .int .i64 2) ∨ (kq = 0 ∧ v4 = .bool false ∧ v5 = .int .i64 4)))
  case atStart => exact ⟨rfl, .inl ⟨rfl, rfl, rfl⟩⟩
  case round =>
    obtain ⟨hwr, h⟩ := hrel
    obtain rfl := hwr.symm
    rcases h with h | h | h
    · obtain ⟨rfl, rfl, rfl⟩ := h
      go_wp2_with fail
      go_roundg 1
      case measure => omega
      case rel => exact ⟨rfl, .inr (.inl ⟨rfl, by first | rfl | simp, by first | rfl | go_num⟩)⟩
    · obtain ⟨rfl, rfl, rfl⟩ := h
      go_wp2_with fail
      go_roundg 0
      case measure => omega
      case rel => exact ⟨rfl, .inr (.inr ⟨rfl, by first | rfl | simp, by first | rfl | go_num⟩)⟩
    · obtain ⟨rfl, rfl, rfl⟩ := h
      go_wp2_with fail
      clear hst hrun
      generalize w1.heap.size = sb at *
      generalize (w1.alloc (.cells (Tryz.zeroCells116.toList.set 256 (.slice (some ⟨w.heap.size, 0, none⟩) 0 2)).toArray 116)) = w2 at *
      have heq : ∀ a n c' w, (binOp .eql 40 (.slice a n c') (.slice none 0 0)).run Tryz.prog w = .ok (.bool a.isNone) w := fun a n c' w => Lib.run_eql_slice_nil w 40 5 a n c' 0 0 Tryz.underlying40
      have hcv : ∀ (s : ByteArray) w, (convert 9 40 (.string s)).run Tryz.prog w = .ok (.slice (some ⟨w.heap.size, 0, none⟩) s.size (grownCap w s.size 0 5)) (Lib.bytesWorld w 5 s) := fun s w => Lib.run_convert_string_bytes w 9 40 5 s Tryz.underlying9 Tryz.underlying40 Tryz.underlying5
      go_loopg [12] 2 (fun kq v12 wr => (kq = 2 ∧ v12 = .int .i64 2 ∧ Asd (Bld w wr sb w.heap.size g 0 s1 s2 s3 s4 ⟨#[]⟩ ⟨#[]⟩ (.slice none 0 0) (.slice none 0 0))) ∨
        (kq = 1 ∧ v12 = .int .i64 0 ∧ ∃ h c, Asd (Bld w wr sb w.heap.size g 1 s1 s2 s3 s4 s3 ⟨#[]⟩ (.slice (some ⟨h, 0, none⟩) 2 c) (.slice none 0 0)) ∧ Asd (RowB wr h s4 ∧ sb < h)) ∨
        (kq = 0 ∧ v12 = .int .i64 (-2) ∧ ∃ h c h' c', Asd (Bld w wr sb w.heap.size g 2 s1 s2 s3 s4 s3 s1 (.slice (some ⟨h, 0, none⟩) 2 c) (.slice (some ⟨h', 0, none⟩) 2 c')) ∧ Asd (RowB wr h s4) ∧ Asd (RowB wr h' s2)))
      case atStart => exact .inl ⟨rfl, rfl, BI⟩
      case round =>
        clear BI
        rcases hrel with ⟨rfl, rfl, HB⟩ | ⟨rfl, rfl, h, c1, HB, HR⟩ | ⟨rfl, rfl, h, c1, h', c2, HB, HR, HR2⟩
        · have g0 := HB.out.g2
          have g1 := HB.out.g3
          have k58 := HB.out.c58
          have kt := HB.out.ct
          have ht0 := HB.out.t0
          have ht1 := HB.out.t1
          have hsf := HB.out.sf
          have htf := HB.out.tf
          have q1 := HB.out.lg
          have q3 := HB.out.ls
          have q4 := HB.out.ll
          have HS := Asd.mk HB.out.bel.size
          generalize w.heap.size = tb at *
          have hb2 : tb < wr.heap.size := by omega
          have hb3 : g < wr.heap.size := by omega
          have n1 : tb ≠ sb := by omega
          have n2 : g ≠ sb := by omega
          have n3 : g ≠ tb := by omega
          have n4 : sb ≠ tb := by omega
          have n5 : sb ≠ g := by omega
          have n6 : tb ≠ g := by omega
          go_upto_region 34 with (fail)
          have H3 := Asd.mk ((((HB.out.put0 s3).setT 1).al (.cells #[.int .u8 58] 5)).al (.cells #[.string s3] 9))
          clear g0 g1 k58 kt ht0 ht1 hsf htf q1 q3 q4 hb2 hb3 HB
          generalize ((((wr.setCell ⟨tb, 0, none⟩ (.string s3)).setCell ⟨sb, 256, none⟩ (.slice (some ⟨tb, 0, none⟩) 1 2)).alloc (.cells #[.int .u8 58] 5)).alloc (.cells #[.string s3] 9)) = W3 at *
          have HN := Asd.mk (RowB.new W3 s4)
          have hl3 := H3.out.ll
          have H4 := Asd.mk (H3.out.by s4)
          have k4 := H4.out.c58
          have f4 := H4.out.sf
          go_wp2_with fail
          go_roundg 1
          case measure => omega
          case rel => exact .inr (.inl ⟨rfl, by first | rfl | go_num, W3.heap.size, _, ⟨H4.out.set58 _⟩, ⟨HN.out.fr (F := fun k => k = sb) ((Fr.refl (fun k => k = sb) _).setCell (F := fun k => k = sb) (p := ⟨sb, 58, none⟩) rfl _) (by omega), hl3⟩⟩)
        · have g0 := HB.out.g0
          have g1 := HB.out.g1
          have k58 := HB.out.c92
          have kt := HB.out.ct
          have ht0 := HB.out.t0
          have ht1 := HB.out.t1
          have hsf := HB.out.sf
          have htf := HB.out.tf
          have q1 := HB.out.lg
          have q3 := HB.out.ls
          have q4 := HB.out.ll
          have HS := Asd.mk HB.out.bel.size
          generalize w.heap.size = tb at *
          have hb2 : tb < wr.heap.size := by omega
          have hb3 : g < wr.heap.size := by omega
          have n1 : tb ≠ sb := by omega
          have n2 : g ≠ sb := by omega
          have n3 : g ≠ tb := by omega
          have n4 : sb ≠ tb := by omega
          have n5 : sb ≠ g := by omega
          have n6 : tb ≠ g := by omega
          go_upto_region 34 with (fail)
          have H3 := Asd.mk ((((HB.out.put1 s1).setT 2).al (.cells #[.int .u8 92] 5)).al (.cells #[.string s1] 9))
          have HR3 : Asd (RowB ((((wr.setCell ⟨tb, 1, none⟩ (.string s1)).setCell ⟨sb, 256, none⟩ (.slice (some ⟨tb, 0, none⟩) 2 2)).alloc (.cells #[.int .u8 92] 5)).alloc (.cells #[.string s1] 9)) h s4 ∧ sb < h) := ⟨HR.out.1.fr (F := fun k => k = tb ∨ k = sb) (((((Fr.refl (fun k => k = tb ∨ k = sb) wr).setCell (F := fun k => k = tb ∨ k = sb) (p := ⟨tb, 1, none⟩) (.inl rfl) (.string s1)).setCell (F := fun k => k = tb ∨ k = sb) (p := ⟨sb, 256, none⟩) (.inr rfl) (.slice (some ⟨tb, 0, none⟩) 2 2)).alloc (.cells #[.int .u8 92] 5)).alloc (.cells #[.string s1] 9)) (by have := HR.out.2; omega), HR.out.2⟩
          clear g0 g1 k58 kt ht0 ht1 hsf htf q1 q3 q4 hb2 hb3 HB
          generalize ((((wr.setCell ⟨tb, 1, none⟩ (.string s1)).setCell ⟨sb, 256, none⟩ (.slice (some ⟨tb, 0, none⟩) 2 2)).alloc (.cells #[.int .u8 92] 5)).alloc (.cells #[.string s1] 9)) = W3 at *
          have HN := Asd.mk (RowB.new W3 s2)
          have hl3 := H3.out.ll
          have H4 := Asd.mk (H3.out.by s2)
          have k4 := H4.out.c92
          have f4 := H4.out.sf
          go_wp2_with fail
          go_roundg 0
          case measure => omega
          case rel => exact .inr (.inr ⟨rfl, by first | rfl | go_num, h, c1, W3.heap.size, _, ⟨H4.out.set92 _⟩, ⟨(HR3.out.1.fr ((Fr.refl (fun k => k = sb) W3).bytes 5 s2) (by have := HR3.out.2; omega)).fr (F := fun k => k = sb) ((Fr.refl (fun k => k = sb) _).setCell (F := fun k => k = sb) (p := ⟨sb, 92, none⟩) rfl _) (by have := HR3.out.2; omega)⟩, ⟨HN.out.fr (F := fun k => k = sb) ((Fr.refl (fun k => k = sb) _).setCell (F := fun k => k = sb) (p := ⟨sb, 92, none⟩) rfl _) (by omega)⟩⟩)
        · go_wp2_with fail
          go_ret
          exact ⟨sb, rfl, FIN.out _ _ _ _ _ _ _ HB.out HR.out HR2.out⟩
end Go.Proofs.YtacimedkchjfnaaGreat
end

section
/-! The replacer: once. -/
namespace Go.Proofs.YtacimedkchjfnaaGreat
open Go.RowKit
set_option linter.unusedSimpArgs false
set_option linter.unusedVariables false

theorem buildOnce_calls (w : World) (rb g c : Nat) (x0 x1 x2 x3 : Value)
    (hr : w.heap[rb]? = some (.cells #[x0, x1, x2, x3, .slice (some ⟨g, 0, none⟩) 4 c] 76 (0, 0)))
    (h0 : w.cell? ⟨g, 0, none⟩ = some (.string b1)) (h1 : w.cell? ⟨g, 1, none⟩ = some (.string b2)) (h2 : w.cell? ⟨g, 2, none⟩ = some (.string b3)) (h3 : w.cell? ⟨g, 3, none⟩ = some (.string b4)) :
    Calls Tryz.prog 30 #[.pointer (some ⟨rb, 0, none⟩)] w fun e w' => e = .returned (.tuple #[]) ∧ ∃ sb w1, w' = (w1.setCell ⟨rb, 3, none⟩ (.iface 117 (.pointer (some ⟨sb, 0, none⟩)))).setCell ⟨rb, 4, none⟩ (.slice none 0 0) ∧ BRep w1 sb ∧ Below w.heap.size w w1 := by
  have hb := Asd.mk (build_calls w rb g c x0 x1 x2 x3 hr h0 h1 h2 h3)
  have HR := Asd.mk hr
  clear hr h0 h1 h2 h3
  go_enter Tryz.func30, Tryz.ntmps30
  go_wp2_with fail
  refine hb.out.mono ?_
  rintro e w1 ⟨sb, rfl, hB, hw⟩
  have hr1 : w1.heap[rb]? = some (.cells #[x0, x1, x2, x3, .slice (some ⟨g, 0, none⟩) 4 c] 76 (0, 0)) := (hw.block rb (Array.getElem?_eq_some_iff.1 HR.out).1).trans HR.out
  have r3 : w1.cell? ⟨rb, 3, none⟩ = some x3 := cell_of_row _ _ 3 _ _ _ hr1
  have r4 : w1.cell? ⟨rb, 4, none⟩ = some (.slice (some ⟨g, 0, none⟩) 4 c) := cell_of_row _ _ 4 _ _ _ hr1
  have rf : ∀ i, w1.frozen? ⟨rb, i, none⟩ = false := fun i => by unfold World.frozen?; rw [hr1]; simp
  have HB := Asd.mk hB
  have HW := Asd.mk hw
  clear hr1 hB hw
  go_wp2_with fail
  go_end0
  exact ⟨rfl, sb, w1, rfl, HB.out, HW.out⟩
end Go.Proofs.YtacimedkchjfnaaGreat
end

section
/-! The replacer: doSlow, Do. -/
namespace Go.Proofs.YtacimedkchjfnaaGreat
open Go.RowKit
set_option linter.unusedSimpArgs false
set_option linter.unusedVariables false

theorem bload0 (a : Addr) (w : World) (hc : w.cell? a = some (.int .u32 0)) : Calls Tryz.prog 50 #[.pointer (some a)] w fun e w' => e = .returned (.bool false) ∧ w' = w := by
  have hl := run_call_load (P := Tryz.prog) Tryz.func58 (by kernel_rfl) (by kernel_rfl) (by kernel_rfl) .u32 (by kernel_rfl) (w := w) (a := a) (x := 0) hc
  go_enter Tryz.func50, Tryz.ntmps50
  go_wp2
  go_ret
  exact ⟨rfl, rfl⟩
set_option maxRecDepth 100000 in
set_option maxHeartbeats 1600000 in
theorem slow_calls (w : World) (lo rb g c : Nat) (x2 x3 : Value) (hlo : lo ≤ rb) (hgr : g ≠ rb)
    (hr : w.heap[rb]? = some (.cells #[.int .u32 0, .int .i32 0, x2, x3, .slice (some ⟨g, 0, none⟩) 4 c] 76 (0, 0)))
    (h0 : w.cell? ⟨g, 0, none⟩ = some (.string b1)) (h1 : w.cell? ⟨g, 1, none⟩ = some (.string b2)) (h2 : w.cell? ⟨g, 2, none⟩ = some (.string b3)) (h3 : w.cell? ⟨g, 3, none⟩ = some (.string b4)) :
    Calls Tryz.prog 51 #[.pointer (some ⟨rb, 0, none⟩), .func (.func 30) #[.pointer (some ⟨rb, 0, none⟩)] #[]] w fun e w' => e = .returned (.tuple #[]) ∧
      ∃ sb, BRep w' sb ∧ w'.cell? ⟨rb, 3, none⟩ = some (.iface 117 (.pointer (some ⟨sb, 0, none⟩))) ∧ Below lo w w' := by
  have hrl : rb < w.heap.size := (Array.getElem?_eq_some_iff.1 hr).1
  have hf : Fr (fun k => k = rb) w (w.setCell ⟨rb, 1, none⟩ (.int .i32 1)) := (Fr.refl _ w).setCell (F := fun k => k = rb) (p := ⟨rb, 1, none⟩) rfl _
  have hr1 : (w.setCell ⟨rb, 1, none⟩ (.int .i32 1)).heap[rb]? = some (.cells #[.int .u32 0, .int .i32 1, x2, x3, .slice (some ⟨g, 0, none⟩) 4 c] 76 (0, 0)) := heap_setCell_same w rb 1 _ 76 _ hr
  have hb := Asd.mk (buildOnce_calls (w.setCell ⟨rb, 1, none⟩ (.int .i32 1)) rb g c _ _ _ _ hr1 (cell_fr h0 hf hgr) (cell_fr h1 hf hgr) (cell_fr h2 hf hgr) (cell_fr h3 hf hgr))
  have HW := Asd.mk (show Below lo w (w.setCell ⟨rb, 1, none⟩ (.int .i32 1)) from (Below.refl _ w).setCell hlo _)
  have hl := run_call_load (P := Tryz.prog) Tryz.func58 (by kernel_rfl) (by kernel_rfl) (by kernel_rfl) .u32 (by kernel_rfl) (w := w.setCell ⟨rb, 1, none⟩ (.int .i32 1)) (a := ⟨rb, 0, none⟩) (x := 0) (cell_of_row _ _ 0 _ _ _ hr1)
  have hnot : ∀ (x : Bool) (w : World), (Op.unary .not (.bool x)).run Tryz.prog w = .ok (.bool (!x)) w := fun _ _ => rfl
  have c1 : w.cell? ⟨rb, 1, none⟩ = some (.int .i32 0) := cell_of_row _ _ 1 _ _ _ hr
  have f1 : w.frozen? ⟨rb, 1, none⟩ = false := by unfold World.frozen?; rw [hr]; simp
  have HR1 := Asd.mk hr1
  clear hr h0 h1 h2 h3 hf hr1
  go_enter_defers Tryz.func51, Tryz.ntmps51
  go_wp2_with fail
  refine (lock_free ⟨rb, 1, none⟩ w c1 f1).mono ?_
  rintro e w' ⟨rfl, rfl⟩
  go_wp2_with fail
  refine (bload0 ⟨rb, 0, none⟩ _ (cell_of_row _ _ 0 _ _ _ HR1.out)).mono ?_
  rintro e w' ⟨rfl, rfl⟩
  go_wp2_with fail
  refine hb.out.mono ?_
  rintro e w' ⟨rfl, sb, w1, rfl, hB, hw⟩
  have hr3 : w1.heap[rb]? = some (.cells #[.int .u32 0, .int .i32 1, x2, x3, .slice (some ⟨g, 0, none⟩) 4 c] 76 (0, 0)) := (hw.block rb (Array.getElem?_eq_some_iff.1 HR1.out).1).trans HR1.out
  have hr4 := heap_setCell_same w1 rb 3 _ 76 (.iface 117 (.pointer (some ⟨sb, 0, none⟩))) hr3
  have hr5 := heap_setCell_same _ rb 4 _ 76 (.slice none 0 0) hr4
  have hsb : sb ≠ rb := by
    rintro rfl
    have h58 := hB.r58
    obtain ⟨h, c', h1, _⟩ := h58
    rw [cell_of_row _ _ 58 _ _ _ hr3] at h1
    simp at h1
  have HFIN : Asd (∀ W, Fr (fun k => k = rb) w1 W → BRep W sb) := ⟨fun W hF => by
    have z0 : w1.cell? ⟨rb, 0, none⟩ = some (.int .u32 0) := cell_of_row _ _ 0 _ _ _ hr3
    have hrow : ∀ h s, RowB w1 h s → 0 < s.size → RowB W h s := fun h s H hs => H.fr hF fun e => by
      subst e
      have := H.2 0 hs
      rw [z0] at this
      simp at this
    obtain ⟨h, c', h1, h2⟩ := hB.r58
    obtain ⟨i, c'', i1, i2⟩ := hB.r92
    obtain ⟨tb, t1, t2, t3⟩ := hB.t
    have htb : tb ≠ rb := by
      rintro rfl
      rw [z0] at t2
      simp at t2
    exact ⟨fun j a b c => cell_fr (hB.nil j a b c) hF hsb, ⟨h, c', cell_fr h1 hF hsb, hrow _ _ h2 (by decide)⟩, ⟨i, c'', cell_fr i1 hF hsb, hrow _ _ i2 (by decide)⟩, ⟨tb, cell_fr t1 hF hsb, cell_fr t2 hF htb, cell_fr t3 hF htb⟩⟩⟩
  have HBEL := Asd.mk (HW.out.trans (hw.mono (Nat.le_trans (by omega : lo ≤ w.heap.size) HW.out.size)))
  have c3 : ((w1.setCell ⟨rb, 3, none⟩ (.iface 117 (.pointer (some ⟨sb, 0, none⟩)))).setCell ⟨rb, 4, none⟩ (.slice none 0 0)).cell? ⟨rb, 3, none⟩ = some (.iface 117 (.pointer (some ⟨sb, 0, none⟩))) := cell_of_row _ _ 3 _ _ _ hr5
  have hF2 : Fr (fun k => k = rb) w1 ((w1.setCell ⟨rb, 3, none⟩ (.iface 117 (.pointer (some ⟨sb, 0, none⟩)))).setCell ⟨rb, 4, none⟩ (.slice none 0 0)) := ((Fr.refl (fun k => k = rb) w1).setCell (F := fun k => k = rb) (p := ⟨rb, 3, none⟩) rfl _).setCell (F := fun k => k = rb) (p := ⟨rb, 4, none⟩) rfl _
  have hB2 : Below lo w ((w1.setCell ⟨rb, 3, none⟩ (.iface 117 (.pointer (some ⟨sb, 0, none⟩)))).setCell ⟨rb, 4, none⟩ (.slice none 0 0)) := (HBEL.out.setCell (p := ⟨rb, 3, none⟩) hlo _).setCell (p := ⟨rb, 4, none⟩) hlo _
  go_wp2
  generalize ((w1.setCell ⟨rb, 3, none⟩ (.iface 117 (.pointer (some ⟨sb, 0, none⟩)))).setCell ⟨rb, 4, none⟩ (.slice none 0 0)) = W2 at *
  refine leaves_cons (f := 61) (args := #[.pointer (some ⟨rb, 0, none⟩), .bool true]) (by simp) (by simp [go_sem]) ?_
  refine (store_deferred ⟨rb, 0, none⟩ (.int .u32 0) .returning _ (cell_of_row _ _ 0 _ _ _ hr5) (by unfold World.frozen?; rw [hr5]; simp)).mono ?_
  rintro e u' w'' ⟨rfl, rfl, rfl⟩
  have hr6 := heap_setCell_same W2.drew rb 0 _ 76 (.int .u32 1) hr5
  have hF3 : Fr (fun k => k = rb) w1 (W2.drew.setCell ⟨rb, 0, none⟩ (.int .u32 1)) := (⟨hF2.size, hF2.block⟩ : Fr (fun k => k = rb) w1 W2.drew).setCell (F := fun k => k = rb) (p := ⟨rb, 0, none⟩) rfl _
  have hB3 : Below lo w (W2.drew.setCell ⟨rb, 0, none⟩ (.int .u32 1)) := hB2.drew.setCell (p := ⟨rb, 0, none⟩) hlo _
  have c4 : (W2.drew.setCell ⟨rb, 0, none⟩ (.int .u32 1)).cell? ⟨rb, 3, none⟩ = some (.iface 117 (.pointer (some ⟨sb, 0, none⟩))) := cell_of_row _ _ 3 _ _ _ hr6
  generalize (W2.drew.setCell ⟨rb, 0, none⟩ (.int .u32 1)) = W3 at *
  refine leaves_cons (f := 60) (args := #[.pointer (some ⟨rb, 1, none⟩)]) (by simp [settle]) (by simp [go_sem]) ?_
  refine (unlock_deferred ⟨rb, 1, none⟩ _ _ (cell_of_row _ _ 1 _ _ _ hr6) (by unfold World.frozen?; rw [hr6]; simp)).mono ?_
  rintro e u' w'' ⟨rfl, rfl, rfl⟩
  have hr7 := heap_setCell_same _ rb 1 _ 76 (.int .i32 0) hr6
  have hF4 := HFIN.out _ (hF3.setCell (F := fun k => k = rb) (p := ⟨rb, 1, none⟩) rfl (.int .i32 0))
  have hB4 : Below lo w (W3.setCell ⟨rb, 1, none⟩ (.int .i32 0)) := hB3.setCell (p := ⟨rb, 1, none⟩) hlo _
  have c5 : (W3.setCell ⟨rb, 1, none⟩ (.int .i32 0)).cell? ⟨rb, 3, none⟩ = some (.iface 117 (.pointer (some ⟨sb, 0, none⟩))) := cell_of_row _ _ 3 _ _ _ hr7
  have hpost : ∃ sb, BRep (W3.setCell ⟨rb, 1, none⟩ (.int .i32 0)) sb ∧ (W3.setCell ⟨rb, 1, none⟩ (.int .i32 0)).cell? ⟨rb, 3, none⟩ = some (.iface 117 (.pointer (some ⟨sb, 0, none⟩))) ∧ Below lo w (W3.setCell ⟨rb, 1, none⟩ (.int .i32 0)) := ⟨sb, hF4, c5, hB4⟩
  clear hr7 hF4 hB4 c5
  simp [Leaves, settle, results, Tryz.results32]
  exact hpost
end Go.Proofs.YtacimedkchjfnaaGreat
end

section
/-! The replacer: Do. -/
namespace Go.Proofs.YtacimedkchjfnaaGreat
open Go.RowKit
set_option linter.unusedSimpArgs false
set_option linter.unusedVariables false

theorem do_calls (w : World) (lo rb g c : Nat) (x2 x3 : Value) (hlo : lo ≤ rb) (hgr : g ≠ rb)
    (hr : w.heap[rb]? = some (.cells #[.int .u32 0, .int .i32 0, x2, x3, .slice (some ⟨g, 0, none⟩) 4 c] 76 (0, 0)))
    (h0 : w.cell? ⟨g, 0, none⟩ = some (.string b1)) (h1 : w.cell? ⟨g, 1, none⟩ = some (.string b2)) (h2 : w.cell? ⟨g, 2, none⟩ = some (.string b3)) (h3 : w.cell? ⟨g, 3, none⟩ = some (.string b4)) :
    Calls Tryz.prog 29 #[.pointer (some ⟨rb, 0, none⟩), .func (.func 30) #[.pointer (some ⟨rb, 0, none⟩)] #[]] w fun e w' => e = .returned (.tuple #[]) ∧
      ∃ sb, BRep w' sb ∧ w'.cell? ⟨rb, 3, none⟩ = some (.iface 117 (.pointer (some ⟨sb, 0, none⟩))) ∧ Below lo w w' := by
  have HS := Asd.mk (slow_calls w lo rb g c x2 x3 hlo hgr hr h0 h1 h2 h3)
  have H0 := Asd.mk (bload0 ⟨rb, 0, none⟩ w (cell_of_row _ _ 0 _ _ _ hr))
  clear hr h0 h1 h2 h3
  go_enter Tryz.func29, Tryz.ntmps29
  go_wp2_with fail
  refine H0.out.mono ?_
  rintro e w' ⟨rfl, rfl⟩
  go_wp2_with fail
  refine HS.out.mono ?_
  rintro e w' ⟨rfl, hp⟩
  have HP := Asd.mk hp
  clear hp
  go_wp2_with fail
  go_end0
  exact ⟨rfl, HP.out⟩
end Go.Proofs.YtacimedkchjfnaaGreat
end

section
/-! The replacer: NewReplacer. -/
namespace Go.Proofs.YtacimedkchjfnaaGreat
open Go.RowKit
set_option linter.unusedSimpArgs false
set_option linter.unusedVariables false

theorem own_form {w : World} {base : Nat} {e : TypeId} {size : Nat} {v : Value} {n : Nat} {xs : List Value} (h : w.ownsRow base e size v n xs) (hn : 0 < n) : ∃ g c, v = .slice (some ⟨g, 0, none⟩) n c ∧ v.ownBlock = some g := by
  rcases h.2 with ⟨_, h0⟩ | ⟨g, cap, cur, rfl, _⟩
  · omega
  · exact ⟨g, cap, rfl, rfl⟩
set_option maxRecDepth 20000 in
theorem new_calls (w : World) (a : Nat) (ca : Nat)
    (h0 : w.cell? ⟨a, 0, none⟩ = some (.string b1)) (h1 : w.cell? ⟨a, 1, none⟩ = some (.string b2)) (h2 : w.cell? ⟨a, 2, none⟩ = some (.string b3)) (h3 : w.cell? ⟨a, 3, none⟩ = some (.string b4)) :
    Calls Tryz.prog 20 #[.slice (some ⟨a, 0, none⟩) 4 ca] w fun e w' => ∃ rb g c x2 x3, e = .returned (.pointer (some ⟨rb, 0, none⟩)) ∧ w.heap.size ≤ rb ∧ g ≠ rb ∧ Below w.heap.size w w' ∧
      w'.heap[rb]? = some (.cells #[.int .u32 0, .int .i32 0, x2, x3, .slice (some ⟨g, 0, none⟩) 4 c] 76 (0, 0)) ∧
      w'.cell? ⟨g, 0, none⟩ = some (.string b1) ∧ w'.cell? ⟨g, 1, none⟩ = some (.string b2) ∧ w'.cell? ⟨g, 2, none⟩ = some (.string b3) ∧ w'.cell? ⟨g, 3, none⟩ = some (.string b4) := by
  obtain ⟨i0, hi, hz0, hz1, hz2⟩ := info_parts info9
  have HN : Asd (∀ W, Below w.heap.size w W → ∀ (j : Nat) (u : Value), [Value.string b1, .string b2, .string b3, .string b4][j]? = some u → W.cell? ((⟨a, 0, none⟩ : Addr).add j) = some u) := ⟨fun W hb j u hj => by
    have hl := World.block_lt_of_cell? _ _ h0
    have hadd : (⟨a, 0, none⟩ : Addr).add j = ⟨a, j, none⟩ := by rw [Addr.add_mid]; simp
    rw [hadd, hb.cell (p := ⟨a, j, none⟩) hl]
    match j, hj with
    | 0, hj => simp at hj; rw [h0, hj]
    | 1, hj => simp at hj; rw [h1, hj]
    | 2, hj => simp at hj; rw [h2, hj]
    | 3, hj => simp at hj; rw [h3, hj]⟩
  clear h0 h1 h2 h3
  generalize b1 = s1 at *
  generalize b2 = s2 at *
  generalize b3 = s3 at *
  generalize b4 = s4 at *
  go_enter Tryz.func20, Tryz.ntmps20
  go_wp2_with (at_builtin; refine wpList_append_own_at _ rfl _ _ 22 rfl w.heap.size 9 i0 (.string ⟨#[]⟩) 1 16 Tryz.underlying22 hi hz0 hz1 hz2 rfl (by decide) _ 0 [] rfl (World.ownsRow_nil _ _ _ _) ⟨a, 0, none⟩ 4 ca [.string s1, .string s2, .string s3, .string s4] rfl rfl (HN.out _ (by first | exact Below.refl _ _ | exact (Below.refl _ _).alloc (Nat.le_refl _) _)) (by simp [Value.oneCell']) (by decide) (by omega) (by simp) ?_; intro v1 w1 hown hg _ hat; obtain ⟨g1, c1, rfl, _⟩ := own_form hown (by omega))
  have hg2 : w.grownBy w1 none := hg
  have hB : Below w.heap.size w w1 := ⟨hg2.os, hg2.tape, hg2.output, hg2.size, fun k hk => hg2.block k hk (by simp)⟩
  have hl := hown.lt g1 rfl
  have e0 := hown.cellAt 0 (by simp)
  have e1 := hown.cellAt 1 (by simp)
  have e2 := hown.cellAt 2 (by simp)
  have e3 := hown.cellAt 3 (by simp)
  have hb2 : Below w1.heap.size w1 (w1.alloc (.cells #[.int .u32 0, .int .i32 0, .int .u32 0, .nilIface, .slice (some ⟨g1, 0, none⟩) 4 c1] 76)) := (Below.refl _ _).alloc (Nat.le_refl _) _
  go_ret
  refine ⟨w1.heap.size, g1, c1, _, _, rfl, hB.size, by omega, hB.trans (hb2.mono hB.size), heap_alloc_new _ _, ?_, ?_, ?_, ?_⟩
  · exact (hb2.cell (p := ⟨g1, 0, none⟩) hl.2).trans e0
  · exact (hb2.cell (p := ⟨g1, 1, none⟩) hl.2).trans e1
  · exact (hb2.cell (p := ⟨g1, 2, none⟩) hl.2).trans e2
  · exact (hb2.cell (p := ⟨g1, 3, none⟩) hl.2).trans e3
end Go.Proofs.YtacimedkchjfnaaGreat
end

section
/-! What the replacer makes of a text: plain lists. -/
namespace Go.Proofs.YtacimedkchjfnaaGreat
set_option linter.unusedSimpArgs false
set_option linter.unusedVariables false

def isSp (b : UInt8) : Bool := b == 58 || b == 92
def esc1 (b : UInt8) : List UInt8 := if isSp b then [92, b] else [b]
def escL (l : List UInt8) : List UInt8 := l.flatMap esc1
/-- How many bytes are replaced. -/
def nSp (l : List UInt8) : Nat := l.countP isSp
theorem escL_length (l : List UInt8) : (escL l).length = l.length + nSp l := by
  induction l with
  | nil => rfl
  | cons b l ih =>
    unfold escL nSp at *
    rw [List.flatMap_cons, List.length_append, List.countP_cons, ih]
    unfold esc1
    cases h : isSp b <;> simp [h] <;> omega
theorem escL_id {l : List UInt8} (h : nSp l = 0) : escL l = l := by
  induction l with
  | nil => rfl
  | cons b l ih =>
    unfold nSp at h
    rw [List.countP_cons] at h
    cases hb : isSp b
    · rw [hb] at h
      have h2 := ih (by unfold nSp; simpa using h)
      unfold escL at h2 ⊢
      have h1 : esc1 b = [b] := by unfold esc1; rw [hb]; rfl
      rw [List.flatMap_cons, h1, h2]
      rfl
    · rw [hb] at h
      simp at h
theorem escL_take {l : List UInt8} {k : Nat} {b : UInt8} (h : l[k]? = some b) : escL (l.take (k + 1)) = escL (l.take k) ++ esc1 b := by
  unfold escL
  rw [List.take_add_one, h, List.flatMap_append]
  simp
theorem nSp_take {l : List UInt8} {k : Nat} {b : UInt8} (h : l[k]? = some b) : nSp (l.take (k + 1)) = nSp (l.take k) + if isSp b then 1 else 0 := by
  unfold nSp
  rw [List.take_add_one, h, List.countP_append]
  simp [List.countP_cons]
theorem nSp_counts (l : List UInt8) : nSp l = l.count 58 + l.count 92 := by
  induction l with
  | nil => rfl
  | cons b l ih =>
    unfold nSp at *
    rw [List.countP_cons, List.count_cons, List.count_cons, ih]
    unfold isSp
    by_cases h1 : b = 58
    · subst h1; simp; omega
    · by_cases h2 : b = 92
      · subst h2; simp; omega
      · simp [h1, h2]
end Go.Proofs.YtacimedkchjfnaaGreat
end
