/- Part 12 of the proof: C15, A0. -/
import Derived.Test.YtacimedkchjfnaaGreatV11
import Derived.Laws.OwnMore
import Derived.Conc.SmallLaws
import Derived.Room.Make
import GoSem.Step
section
/-! Goroutine 0 in 'shards': its begin. -/
namespace Go.Proofs.YtacimedkchjfnaaGreat
set_option linter.unusedSimpArgs false
set_option linter.unusedVariables false
set_option maxRecDepth 100000
open Go.Conc Go.RowKit Go.Conc.Lib Go.ConcR.Gen
open Go.ConcR (KK wgBlock WgAt stA smA rd wr deafBehind_cons deafBehind_one)
open Go.ConcN (WgLive)
/-- What a step of goroutine 0's may list between two phases; the heap may grow; block U is not touched. -/
def DQ (Shun : Loc → Prop) (U : Nat) (d : Nat) (w w' : World) (es : Array Event) : Prop := w.heap.size ≤ w'.heap.size ∧ ∀ e ∈ es, EvL Shun w'.heap.size e ∧ ∀ b ad, (MemAct.ofEvent e).touch? = some b → b.loc = .cell ad → ad.block ≠ U
theorem tQ (Shun : Loc → Prop) (U : Nat) : GT AtRel (DQ Shun U) := ⟨atRel_trans, fun d w => ⟨Nat.le_refl _, fun e he => by simp at he⟩⟩
theorem inf3 : (Tryz.prog.info? 3).map (fun i => (i.zero, i.size, i.bytes)) = some (some (.int .i64 0), 1, 8) := by kernel_rfl
theorem und51 : Tryz.prog.underlying 51 = some (.chan .both 64) := by kernel_rfl
theorem und52 : Tryz.prog.underlying 52 = some (.chan .both 53) := by kernel_rfl
theorem el37 : Tryz.prog.underlying 37 = some (.slice 3) := by kernel_rfl
theorem run_mk37 (w : World) (n : Nat) (hn : n ≤ 1000000) : (Instr.makeSlice 37 (.int .i64 n) (.int .i64 n)).run Tryz.prog w = .ok (.slice (some ⟨w.heap.size, 0, none⟩) n n) (w.alloc (.cells (madeCells #[.int .i64 0] n) 3)) := by
  obtain ⟨i, hi, h⟩ := Option.map_eq_some_iff.1 inf3
  simp only [Prod.mk.injEq] at h
  obtain ⟨h1, h2, h3⟩ := h
  have := run_make (P := Tryz.prog) w 37 3 i (.int .i64 0) el37 hi h1 .i64 .i64 n n (by omega) (Int.le_refl _) (by rw [h3]; omega) (by omega)
  simp only [Int.toNat_natCast, h2, Nat.mul_one] at this
  exact this
theorem ev_mk37 (w : World) (n : Nat) (hn : n ≤ 1000000) (es : Array Event) : (Instr.makeSlice 37 (.int .i64 n) (.int .i64 n)).events Tryz.prog w es = es := by
  obtain ⟨i, hi, h⟩ := Option.map_eq_some_iff.1 inf3
  simp only [Prod.mk.injEq] at h
  obtain ⟨h1, h2, h3⟩ := h
  have wl : IntKind.i64.wrap (n : Int) = n := by rw [IntKind.wrap_i64]; omega
  have n1 : ¬ ((n : Int) < 0) := by omega
  have n2 : ¬ (281474976710656 < (i.bytes : Int) * (n : Int)) := by rw [h3]; omega
  have n4 : ¬ roomBytes < n * 8 := by unfold roomBytes; omega
  have n5 : ¬ ((n : Int) < n) := by omega
  have hr : (askRoom (n * i.bytes)) = pure () := by unfold askRoom; rw [if_neg (by rw [h3]; exact n4)]
  by_cases hn0 : n * i.size = 0
  · simp [Instr.makeSlice, run_underlying el37, asInt, asIntOf, typeInfo, hi, sizeOf, wl, n1, n2, n5, hr, hn0, newRow]
  · simp [Instr.makeSlice, run_underlying el37, asInt, asIntOf, typeInfo, hi, sizeOf, zeroValue, h1, wl, n1, n2, n5, hr, hn0, newRow]
section
variable {x : Ph} {Shun : Loc → Prop} {W : World} {nv : Int} {a0 : Option Addr} {cap N : Nat} {cs₀ : List Frame} {Stop : Nat → Goroutine → World → Prop}
noncomputable def P16 : Code := match Tryz.f16.body.getD .skip with
  | .seq _ (.seq _ c) => c
  | _ => .skip
theorem size_alloc (w : World) (o : Obj) : (w.alloc o).heap.size = w.heap.size + 1 := Array.size_push ..
theorem get_alloc_new (w : World) (o : Obj) : (w.alloc o).heap[w.heap.size]? = some o := heap_new w o
theorem get_alloc_old {w : World} {o o' : Obj} {k : Nat} (h : w.heap[k]? = some o') : (w.alloc o).heap[k]? = some o' := by
  rw [Below.heap_alloc _ _ _ (Array.getElem?_eq_some_iff.1 h).1]; exact h
theorem below_at {B : Nat} {W w : World} (h : Below B W w) (d : Nat) : Below B W (w.at d) := ⟨h.os, h.tape, h.output, h.size, h.block⟩
theorem at_heap (w : World) (d : Nat) : (w.at d).heap = w.heap := rfl
theorem dq_alloc {Shun : Loc → Prop} {U d : Nat} (w : World) (o : Obj) {es : Array Event} (he : es = #[]) : DQ Shun U d w (w.alloc o) es := ⟨by rw [size_alloc]; omega, fun e h => by rw [he] at h; simp at h⟩
theorem deaf_none {d : Nat} {es : Array Event} (he : es = #[]) : deafBehind d es = d := by rw [he]; rfl
@[go_sem] theorem ev_store_slice (P : Program) (w : World) (es : Array Event) (a : Addr) (m : Mode) (b : Option Addr) (l c : Nat) : (store a (.slice b l c) m).events P w es = storedEv P w es a (.slice b l c) m := events_store P w es a _ m rfl
/-- What stands ahead of the drawn region. -/
structure PB (W : World) (N : Nat) (nv : Int) (w : World) : Prop where
  bl : Below W.heap.size W w
  size : W.heap.size + 3 ≤ w.heap.size
  n : w.heap[W.heap.size]? = some (.cells #[.int .i64 nv] 3)
  c : w.heap[W.heap.size + 1]? = some (.cells (madeCells #[.int .i64 0] N) 3)
  o : w.heap[W.heap.size + 2]? = some (.cells #[.slice (some ⟨W.heap.size + 1, 0, none⟩) N N] 37)
theorem PB.at {N : Nat} {W w : World} (h : PB W N nv w) (d : Nat) : PB W N nv (w.at d) := ⟨below_at h.bl d, h.size, h.n, h.c, h.o⟩
set_option maxHeartbeats 8000000 in
theorem pro1 (hS : ∀ l, Shun l → ∃ a : Addr, l = .cell a ∧ a.block < W.heap.size) (hN : N ≤ 1000000) {n : Nat}
    (hq : ∀ w, PB W N nv w → GD Tryz.prog true AtRel (DQ Shun (W.heap.size + 1)) Stop n 0 (G ((base 16).at ⟨#[.slice a0 N cap, .int .i64 nv, undef, .pointer (some ⟨W.heap.size, 0, none⟩), .slice none 0 0, .pointer (some ⟨W.heap.size + 2, 0, none⟩), undef, undef, undef, undef, undef, .slice a0 N cap, .int .i64 N, .slice (some ⟨W.heap.size + 1, 0, none⟩) N N, undef, undef, undef, undef, undef, undef, undef, undef, undef, undef, undef, undef, undef, undef, undef, undef, undef, undef, undef, undef, undef, undef], []⟩ [.code P16]) cs₀) w) :
    GD Tryz.prog true AtRel (DQ Shun (W.heap.size + 1)) Stop (n + 40) 0 (G ((base 16).at ⟨#[.slice a0 N cap, .int .i64 nv, undef, undef, undef, undef, undef, undef, undef, undef, undef, undef, undef, undef, undef, undef, undef, undef, undef, undef, undef, undef, undef, undef, undef, undef, undef, undef, undef, undef, undef, undef, undef, undef, undef, undef], []⟩ [.code (Tryz.f16.body.getD .skip)]) cs₀) W := by
  have T := tQ Shun (W.heap.size + 1)
  simp only [P16, Tryz.f16, Option.getD_some] at hq ⊢
  with_reducible refine gd_c T (G_running _ _) (fun _ => stepG_seq) ?_
  ((with_reducible refine gd_c T (G_running _ _) (fun _ => stepG_region) ?_); simp only [List.size_toArray, List.length_cons, List.length_nil, Nat.reduceAdd, Nat.zero_add, List.range, List.range.loop])
  refine gd_op rfl rfl (by k_ne) (fun w₁ h₁ K hK => ?_)
  obtain ⟨d1, rfl⟩ := h₁
  go_simp
  refine hK _ _ (dq_alloc _ _ (listed_nil (by simp [go_sem]))) (deaf_none (listed_nil (by simp [go_sem]))) ?_
  clear hK K
  rw [at_heap]
  have b1 : Below W.heap.size W ((W.at d1).alloc (.cells #[.int .i64 nv] 3)) := (below_at (Below.refl _ W) d1).alloc (Nat.le_refl _) _
  have s1 : ((W.at d1).alloc (.cells #[.int .i64 nv] 3)).heap.size = W.heap.size + 1 := size_alloc _ _
  have n1 : ((W.at d1).alloc (.cells #[.int .i64 nv] 3)).heap[W.heap.size]? = some (.cells #[.int .i64 nv] 3) := get_alloc_new (W.at d1) _
  generalize (W.at d1).alloc (.cells #[.int .i64 nv] 3) = w1 at b1 s1 n1 ⊢
  (try walk_nrm)
  (co_applyP gd_val T rfl rfl (by k_ne) ?_ ?_ ?_; (focus (intro _ K hK; go_simp; (try w_num); exact hK)); (focus (intro _; simp [go_sem, *]; done)); (try walk_nrm))
  with_reducible refine gd_c T (G_running _ _) (fun _ => stepG_region_end) ?_
  with_reducible refine gd_c T (G_running _ _) (fun _ => stepG_seq) ?_
  ((with_reducible refine gd_c T (G_running _ _) (fun _ => stepG_region) ?_); simp only [List.size_toArray, List.length_cons, List.length_nil, Nat.reduceAdd, Nat.zero_add, List.range, List.range.loop])
  (co_applyP gd_val T rfl rfl (by k_ne) ?_ ?_ ?_; (focus (intro _ K hK; go_simp; (try w_num); exact hK)); (focus (intro _; simp [go_sem, *]; done)); (try walk_nrm))
  (co_applyP gd_val T rfl rfl (by k_ne) ?_ ?_ ?_; (focus (intro _ K hK; go_simp; (try w_num); exact hK)); (focus (intro _; simp [go_sem, *]; done)); (try walk_nrm))
  refine gd_op rfl rfl (by k_ne) (fun w₁ h₁ K hK => ?_)
  obtain ⟨d2, rfl⟩ := h₁
  have hr := run_mk37 (w1.at d2) N hN
  have he := ev_mk37 (w1.at d2) N hN
  go_simp
  refine hK _ _ (dq_alloc _ _ (listed_nil (by simp [go_sem, he]))) (deaf_none (listed_nil (by simp [go_sem, he]))) ?_
  clear hK K hr he
  rw [at_heap, s1]
  have b2 : Below W.heap.size W ((w1.at d2).alloc (.cells (madeCells #[.int .i64 0] N) 3)) := (below_at b1 d2).alloc (by rw [at_heap, s1]; omega) _
  have s2 : ((w1.at d2).alloc (.cells (madeCells #[.int .i64 0] N) 3)).heap.size = W.heap.size + 2 := by rw [size_alloc, at_heap, s1]
  have n2 := get_alloc_old (w := w1.at d2) (o := .cells (madeCells #[.int .i64 0] N) 3) n1
  have c2 : ((w1.at d2).alloc (.cells (madeCells #[.int .i64 0] N) 3)).heap[W.heap.size + 1]? = some (.cells (madeCells #[.int .i64 0] N) 3) := by rw [← s1]; exact get_alloc_new (w1.at d2) _
  generalize (w1.at d2).alloc (.cells (madeCells #[.int .i64 0] N) 3) = w2 at b2 s2 n2 c2 ⊢
  clear b1 s1 n1 w1
  (try walk_nrm)
  refine gd_op rfl rfl (by k_ne) (fun w₁ h₁ K hK => ?_)
  obtain ⟨d3, rfl⟩ := h₁
  go_simp
  refine hK _ _ (dq_alloc _ _ (listed_nil (by simp [go_sem]))) (deaf_none (listed_nil (by simp [go_sem]))) ?_
  clear hK K
  rw [at_heap, s2]
  have b3 := (below_at b2 d3).alloc (by rw [at_heap, s2]; omega) (.cells #[.slice none 0 0] 37)
  have s3 : ((w2.at d3).alloc (.cells #[.slice none 0 0] 37)).heap.size = W.heap.size + 3 := by rw [size_alloc, at_heap, s2]
  have n3 := get_alloc_old (w := w2.at d3) (o := .cells #[.slice none 0 0] 37) n2
  have c3 := get_alloc_old (w := w2.at d3) (o := .cells #[.slice none 0 0] 37) c2
  have o3 : ((w2.at d3).alloc (.cells #[.slice none 0 0] 37)).heap[W.heap.size + 2]? = some (.cells #[.slice none 0 0] 37) := by rw [← s2]; exact get_alloc_new (w2.at d3) _
  generalize (w2.at d3).alloc (.cells #[.slice none 0 0] 37) = w3 at b3 s3 n3 c3 o3 ⊢
  clear b2 s2 n2 c2 w2
  (try walk_nrm)
  refine gd_op rfl rfl (by k_ne) (fun w₁ h₁ K hK => ?_)
  obtain ⟨d4, rfl⟩ := h₁
  have hc : (w3.at d4).cell? ⟨W.heap.size + 2, 0, none⟩ = some (.slice none 0 0) := by simp [World.cell?, World.at, o3]
  have hf : (w3.at d4).frozen? ⟨W.heap.size + 2, 0, none⟩ = false := by simp [World.frozen?, World.at, o3]
  go_simp
  refine hK _ _ ⟨by simp [World.at], fun e he => ?_⟩ (deafBehind_plain (fun e he => ?_)) ?_
  · have hm := mem_listed he
    simp [go_sem, hc, hf] at hm
    subst hm
    refine ⟨evL_cell _ _ (fun h => ?_) (by simp [World.at, s3]), fun b' ad hb' hl => by cases hb'; cases hl; show W.heap.size + 2 ≠ _; omega⟩
    obtain ⟨a, e1, e2⟩ := hS _ h
    cases e1
    simp at e2
    omega
  · have hm := mem_listed he
    simp [go_sem, hc, hf] at hm
    subst hm
    exact ⟨_, _, _, rfl⟩
  clear hK K hc hf
  have b4 := (below_at b3 d4).setCell (p := ⟨W.heap.size + 2, 0, none⟩) (by simp) (.slice (some ⟨W.heap.size + 1, 0, none⟩) N N)
  have p4 : PB W N nv ((w3.at d4).setCell ⟨W.heap.size + 2, 0, none⟩ (.slice (some ⟨W.heap.size + 1, 0, none⟩) N N)) := by
    refine ⟨b4, by simp [World.at, s3], ?_, ?_, ?_⟩
    · rw [Below.heap_setCell _ _ _ _ (by simp)]; exact n3
    · rw [Below.heap_setCell _ _ _ _ (by simp)]; exact c3
    · simp [World.setCell, World.at, o3, Array.getElem?_modify]
  generalize (w3.at d4).setCell ⟨W.heap.size + 2, 0, none⟩ (.slice (some ⟨W.heap.size + 1, 0, none⟩) N N) = w4 at p4 ⊢
  clear b3 s3 n3 c3 o3 w3 b4
  (try walk_nrm)
  with_reducible refine gd_c T (G_running _ _) (fun _ => stepG_region_end) ?_
  exact (hq w4 p4).mono (by omega)
-- DRAWN
noncomputable def opsD : Array Oper := match P16 with
  | .seq (.region _ ops _) _ => ops
  | _ => #[]
noncomputable def Q16 : Code := match P16 with
  | .seq _ c => c
  | _ => .skip
theorem inf64 : (Tryz.prog.info? 64).isSome = true := by kernel_rfl
theorem inf53 : (Tryz.prog.info? 53).isSome = true := by kernel_rfl
theorem run_mk51 (w : World) : (Instr.makeChan 51 (.int .i64 0)).run Tryz.prog w = .ok (.chan (some w.heap.size)) (w.alloc (.chan 0 #[] false 0 0 false)) := by
  obtain ⟨i, hi⟩ := Option.isSome_iff_exists.1 inf64
  exact run_makeChan (P := Tryz.prog) und51 hi .i64 0 (by decide) (by simp)
theorem run_mk52 (w : World) : (Instr.makeChan 52 (.int .i64 0)).run Tryz.prog w = .ok (.chan (some w.heap.size)) (w.alloc (.chan 0 #[] false 0 0 false)) := by
  obtain ⟨i, hi⟩ := Option.isSome_iff_exists.1 inf53
  exact run_makeChan (P := Tryz.prog) und52 hi .i64 0 (by decide) (by simp)
theorem ev_mk51 (w : World) (es : Array Event) : (Instr.makeChan 51 (.int .i64 0)).events Tryz.prog w es = es := by
  obtain ⟨i, hi⟩ := Option.isSome_iff_exists.1 inf64
  exact events_makeChan (P := Tryz.prog) und51 hi .i64 0 (by decide) (by simp) es
theorem ev_mk52 (w : World) (es : Array Event) : (Instr.makeChan 52 (.int .i64 0)).events Tryz.prog w es = es := by
  obtain ⟨i, hi⟩ := Option.isSome_iff_exists.1 inf53
  exact events_makeChan (P := Tryz.prog) und52 hi .i64 0 (by decide) (by simp) es
/-- A channel, new and empty. -/
def NewC (W w : World) (v : Value) : Prop := ∃ j, v = .chan (some j) ∧ W.heap.size + 3 ≤ j ∧ w.heap[j]? = some (.chan 0 #[] false 0 0 false)
/-- A box of a channel. -/
def NewB (W w : World) (ty : TypeId) (v c : Value) : Prop := ∃ b, v = .pointer (some ⟨b, 0, none⟩) ∧ W.heap.size + 3 ≤ b ∧ w.heap[b]? = some (.cells #[c] ty)
theorem NewC.grow {W w w' : World} {v : Value} (h : NewC W w v) (hk : ∀ (k : Nat) o, w.heap[k]? = some o → (∀ c ty f, o ≠ .cells c ty f) → w'.heap[k]? = some o) : NewC W w' v := by
  obtain ⟨j, e, h1, h2⟩ := h
  exact ⟨j, e, h1, hk _ _ h2 (by simp)⟩
theorem NewB.grow {W w w' : World} {ty : TypeId} {v c : Value} (h : NewB W w ty v c) (hk : ∀ (k : Nat) c', w.heap[k]? = some (.cells #[c'] ty) → w'.heap[k]? = some (.cells #[c'] ty)) : NewB W w' ty v c := by
  obtain ⟨j, e, h1, h2⟩ := h
  exact ⟨j, e, h1, hk _ _ h2⟩
/-- In the drawn region. -/
structure ID (W : World) (N : Nat) (nv : Int) (a0 : Option Addr) (cap : Nat) (L : Array Bool) (a : Act) (w : World) : Prop where
  sz : L.size = 6
  pb : PB W N nv w
  d4 : L[4]? = some true → L[0]? = some true ∧ L[2]? = some true
  d5 : L[5]? = some true → L[1]? = some true ∧ L[3]? = some true
  ex : ∃ v6 v7 v14 v15 c6 c7 : Value, a = ⟨#[.slice a0 N cap, .int .i64 nv, undef, .pointer (some ⟨W.heap.size, 0, none⟩), .slice none 0 0, .pointer (some ⟨W.heap.size + 2, 0, none⟩), v6, v7, undef, undef, undef, .slice a0 N cap, .int .i64 N, .slice (some ⟨W.heap.size + 1, 0, none⟩) N N, v14, v15, undef, undef, undef, undef, undef, undef, undef, undef, undef, undef, undef, undef, undef, undef, undef, undef, undef, undef, undef, undef], []⟩ ∧ (L[0]? = some true → NewC W w v14) ∧ (L[1]? = some true → NewC W w v15) ∧ (L[2]? = some true → NewB W w 51 v6 c6) ∧ (L[3]? = some true → NewB W w 52 v7 c7) ∧
    (L[0]? = some true → L[1]? = some true → v14 ≠ v15) ∧ (L[4]? = some true → c6 = v14) ∧ (L[5]? = some true → c7 = v15)
theorem not_yet {L : Array Bool} {i : Nat} (h : L.getD i true = false) : ¬ L[i]? = some true := by
  intro e
  rw [Array.getD_eq_getD_getElem?, e] at h
  cases h
set_option maxHeartbeats 16000000 in
theorem opD (hS : ∀ l, Shun l → ∃ a : Addr, l = .cell a ∧ a.block < W.heap.size) {k : List Item} {cs : List Frame} {rest : List Nat} {n i : Nat} {L : Array Bool} {a : Act} {w : World} (h : ID W N nv a0 cap L a w) (hi : i ∈ Region.ready .any opsD L)
    (hnext : ∀ a' w', ID W N nv a0 cap (L.setIfInBounds i true) a' w' → GD Tryz.prog true AtRel (DQ Shun (W.heap.size + 1)) Stop n 0 (G ((base 16).at a' (.inRegion opsD rest :: k)) cs) w') :
    GD Tryz.prog true AtRel (DQ Shun (W.heap.size + 1)) Stop (n + 1) 0 (G ((base 16).at a (.inRegion opsD (i :: rest) :: k)) cs) w := by
  have T := tQ Shun (W.heap.size + 1)
  obtain ⟨hu, o, ho, hall⟩ := mem_ready.1 hi
  obtain ⟨sz, hp, d4, d5, v6, v7, v14, v15, c6, c7, rfl, n14, n15, n6, n7, hne, h4, h5⟩ := h
  clear hi
  simp only [opsD, P16, Tryz.f16, Option.getD_some] at ho hnext ⊢
  have hi : i < 6 := by
    have := (Array.getElem?_eq_some_iff.1 ho).1
    simpa using this
  have hu := not_yet hu
  obtain rfl | rfl | rfl | rfl | rfl | rfl : i = 0 ∨ i = 1 ∨ i = 2 ∨ i = 3 ∨ i = 4 ∨ i = 5 := by omega
  all_goals (simp only [List.getElem?_toArray, List.getElem?_cons_succ, List.getElem?_cons_zero, Option.some.injEq] at ho; subst ho; simp only [Region.binds, List.mem_toArray, List.forall_mem_cons, List.mem_cons, forall_eq_or_imp, List.not_mem_nil, false_imp_iff, forall_const, implies_true, and_true, forall_eq] at hall)
  · refine gd_op rfl rfl (by k_ne) (fun w₁ h₁ K hK => ?_)
    obtain ⟨d1, rfl⟩ := h₁
    have hr := run_mk51 (w.at d1)
    have he := ev_mk51 (w.at d1)
    go_simp
    refine hK _ _ (dq_alloc _ _ (listed_nil (by simp [go_sem, he]))) (deaf_none (listed_nil (by simp [go_sem, he]))) ?_
    clear hK K
    have old : ∀ (k : Nat) o, w.heap[k]? = some o → ((w.at d1).alloc (.chan 0 #[] false 0 0 false)).heap[k]? = some o := fun k o h => get_alloc_old (w := w.at d1) h
    have new : ((w.at d1).alloc (.chan 0 #[] false 0 0 false)).heap[w.heap.size]? = some (.chan 0 #[] false 0 0 false) := get_alloc_new (w.at d1) _
    have hp' : PB W N nv ((w.at d1).alloc (.chan 0 #[] false 0 0 false)) := ⟨(below_at hp.bl d1).alloc (by have := hp.size; rw [at_heap]; omega) _, by have := hp.size; rw [size_alloc, at_heap]; omega, old _ _ hp.n, old _ _ hp.c, old _ _ hp.o⟩
    have hsz := hp.size
    have lt : ∀ (k : Nat) o, w.heap[k]? = some o → k < w.heap.size := fun k o h => (Array.getElem?_eq_some_iff.1 h).1
    rw [at_heap]
    generalize (w.at d1).alloc (.chan 0 #[] false 0 0 false) = w' at old new hp' ⊢
    (try walk_nrm)
    exact hnext _ _ ⟨by simpa using sz, hp', fun h => absurd (d4 (setL h (by decide))).1 hu, fun h => (d5 (setL h (by decide))).imp (fun x => by rw [Array.getElem?_setIfInBounds_ne (by decide)]; exact x) (fun x => by rw [Array.getElem?_setIfInBounds_ne (by decide)]; exact x), v6, v7, _, v15, c6, c7, rfl, fun _ => ⟨_, rfl, hsz, new⟩, fun h => (n15 (setL h (by decide))).grow fun k o hk _ => old k o hk, fun h => (n6 (setL h (by decide))).grow fun k o hk => old k _ hk, fun h => (n7 (setL h (by decide))).grow fun k o hk => old k _ hk,
      fun _ h e => (by obtain ⟨j, e1, _, e2⟩ := n15 (setL h (by decide)); rw [e1] at e; cases e; exact absurd (lt _ _ e2) (by omega)), fun h => absurd (d4 (setL h (by decide))).1 hu, fun h => h5 (setL h (by decide))⟩
  · refine gd_op rfl rfl (by k_ne) (fun w₁ h₁ K hK => ?_)
    obtain ⟨d1, rfl⟩ := h₁
    have hr := run_mk52 (w.at d1)
    have he := ev_mk52 (w.at d1)
    go_simp
    refine hK _ _ (dq_alloc _ _ (listed_nil (by simp [go_sem, he]))) (deaf_none (listed_nil (by simp [go_sem, he]))) ?_
    clear hK K
    have old : ∀ (k : Nat) o, w.heap[k]? = some o → ((w.at d1).alloc (.chan 0 #[] false 0 0 false)).heap[k]? = some o := fun k o h => get_alloc_old (w := w.at d1) h
    have new : ((w.at d1).alloc (.chan 0 #[] false 0 0 false)).heap[w.heap.size]? = some (.chan 0 #[] false 0 0 false) := get_alloc_new (w.at d1) _
    have hp' : PB W N nv ((w.at d1).alloc (.chan 0 #[] false 0 0 false)) := ⟨(below_at hp.bl d1).alloc (by have := hp.size; rw [at_heap]; omega) _, by have := hp.size; rw [size_alloc, at_heap]; omega, old _ _ hp.n, old _ _ hp.c, old _ _ hp.o⟩
    have hsz := hp.size
    have lt : ∀ (k : Nat) o, w.heap[k]? = some o → k < w.heap.size := fun k o h => (Array.getElem?_eq_some_iff.1 h).1
    rw [at_heap]
    generalize (w.at d1).alloc (.chan 0 #[] false 0 0 false) = w' at old new hp' ⊢
    (try walk_nrm)
    exact hnext _ _ ⟨by simpa using sz, hp', fun h => (d4 (setL h (by decide))).imp (fun x => by rw [Array.getElem?_setIfInBounds_ne (by decide)]; exact x) (fun x => by rw [Array.getElem?_setIfInBounds_ne (by decide)]; exact x), fun h => absurd (d5 (setL h (by decide))).1 hu, v6, v7, v14, _, c6, c7, rfl, fun h => (n14 (setL h (by decide))).grow fun k o hk _ => old k o hk, fun _ => ⟨_, rfl, hsz, new⟩, fun h => (n6 (setL h (by decide))).grow fun k o hk => old k _ hk, fun h => (n7 (setL h (by decide))).grow fun k o hk => old k _ hk,
      fun h _ e => (by obtain ⟨j, e1, _, e2⟩ := n14 (setL h (by decide)); rw [e1] at e; cases e; exact absurd (lt _ _ e2) (by omega)), fun h => h4 (setL h (by decide)), fun h => absurd (d5 (setL h (by decide))).1 hu⟩
  · refine gd_op rfl rfl (by k_ne) (fun w₁ h₁ K hK => ?_)
    obtain ⟨d1, rfl⟩ := h₁
    skip
    go_simp
    refine hK _ _ (dq_alloc _ _ (listed_nil (by simp [go_sem]))) (deaf_none (listed_nil (by simp [go_sem]))) ?_
    clear hK K
    have old : ∀ (k : Nat) o, w.heap[k]? = some o → ((w.at d1).alloc (.cells #[.chan none] 51)).heap[k]? = some o := fun k o h => get_alloc_old (w := w.at d1) h
    have new : ((w.at d1).alloc (.cells #[.chan none] 51)).heap[w.heap.size]? = some (.cells #[.chan none] 51) := get_alloc_new (w.at d1) _
    have hp' : PB W N nv ((w.at d1).alloc (.cells #[.chan none] 51)) := ⟨(below_at hp.bl d1).alloc (by have := hp.size; rw [at_heap]; omega) _, by have := hp.size; rw [size_alloc, at_heap]; omega, old _ _ hp.n, old _ _ hp.c, old _ _ hp.o⟩
    have hsz := hp.size
    have lt : ∀ (k : Nat) o, w.heap[k]? = some o → k < w.heap.size := fun k o h => (Array.getElem?_eq_some_iff.1 h).1
    rw [at_heap]
    generalize (w.at d1).alloc (.cells #[.chan none] 51) = w' at old new hp' ⊢
    (try walk_nrm)
    exact hnext _ _ ⟨by simpa using sz, hp', fun h => absurd (d4 (setL h (by decide))).2 hu, fun h => (d5 (setL h (by decide))).imp (fun x => by rw [Array.getElem?_setIfInBounds_ne (by decide)]; exact x) (fun x => by rw [Array.getElem?_setIfInBounds_ne (by decide)]; exact x), _, v7, v14, v15, .chan none, c7, rfl, fun h => (n14 (setL h (by decide))).grow fun k o hk _ => old k o hk, fun h => (n15 (setL h (by decide))).grow fun k o hk _ => old k o hk, fun _ => ⟨_, rfl, hsz, new⟩, fun h => (n7 (setL h (by decide))).grow fun k o hk => old k _ hk,
      fun h h' => hne (setL h (by decide)) (setL h' (by decide)), fun h => absurd (d4 (setL h (by decide))).2 hu, fun h => h5 (setL h (by decide))⟩
  · refine gd_op rfl rfl (by k_ne) (fun w₁ h₁ K hK => ?_)
    obtain ⟨d1, rfl⟩ := h₁
    skip
    go_simp
    refine hK _ _ (dq_alloc _ _ (listed_nil (by simp [go_sem]))) (deaf_none (listed_nil (by simp [go_sem]))) ?_
    clear hK K
    have old : ∀ (k : Nat) o, w.heap[k]? = some o → ((w.at d1).alloc (.cells #[.chan none] 52)).heap[k]? = some o := fun k o h => get_alloc_old (w := w.at d1) h
    have new : ((w.at d1).alloc (.cells #[.chan none] 52)).heap[w.heap.size]? = some (.cells #[.chan none] 52) := get_alloc_new (w.at d1) _
    have hp' : PB W N nv ((w.at d1).alloc (.cells #[.chan none] 52)) := ⟨(below_at hp.bl d1).alloc (by have := hp.size; rw [at_heap]; omega) _, by have := hp.size; rw [size_alloc, at_heap]; omega, old _ _ hp.n, old _ _ hp.c, old _ _ hp.o⟩
    have hsz := hp.size
    have lt : ∀ (k : Nat) o, w.heap[k]? = some o → k < w.heap.size := fun k o h => (Array.getElem?_eq_some_iff.1 h).1
    rw [at_heap]
    generalize (w.at d1).alloc (.cells #[.chan none] 52) = w' at old new hp' ⊢
    (try walk_nrm)
    exact hnext _ _ ⟨by simpa using sz, hp', fun h => (d4 (setL h (by decide))).imp (fun x => by rw [Array.getElem?_setIfInBounds_ne (by decide)]; exact x) (fun x => by rw [Array.getElem?_setIfInBounds_ne (by decide)]; exact x), fun h => absurd (d5 (setL h (by decide))).2 hu, v6, _, v14, v15, c6, .chan none, rfl, fun h => (n14 (setL h (by decide))).grow fun k o hk _ => old k o hk, fun h => (n15 (setL h (by decide))).grow fun k o hk _ => old k o hk, fun h => (n6 (setL h (by decide))).grow fun k o hk => old k _ hk, fun _ => ⟨_, rfl, hsz, new⟩,
      fun h h' => hne (setL h (by decide)) (setL h' (by decide)), fun h => h4 (setL h (by decide)), fun h => absurd (d5 (setL h (by decide))).2 hu⟩
  · have l0 := getL hall.1
    have l1 := getL hall.2.1
    obtain ⟨b, rfl, hb, hbc⟩ := n6 l0
    obtain ⟨j, rfl, hj, hjc⟩ := n14 l1
    refine gd_op rfl rfl (by k_ne) (fun w₁ h₁ K hK => ?_)
    obtain ⟨d1, rfl⟩ := h₁
    have hc : (w.at d1).cell? ⟨b, 0, none⟩ = some c6 := by simp [World.cell?, World.at, hbc]
    have hf : (w.at d1).frozen? ⟨b, 0, none⟩ = false := by simp [World.frozen?, World.at, hbc]
    go_simp
    refine hK _ _ ⟨by simp [World.at], fun e he => ?_⟩ (deafBehind_plain (fun e he => ?_)) ?_
    · have hm := mem_listed he
      simp [go_sem, hc, hf] at hm
      subst hm
      refine ⟨evL_cell _ _ (fun h => ?_) (by simpa [World.at] using (Array.getElem?_eq_some_iff.1 hbc).1), fun b' ad hb' hl => by cases hb'; cases hl; show b ≠ _; omega⟩
      obtain ⟨a, e1, e2⟩ := hS _ h
      cases e1
      simp at e2
      omega
    · have hm := mem_listed he
      simp [go_sem, hc, hf] at hm
      subst hm
      exact ⟨_, _, _, rfl⟩
    clear hK K hc hf
    have other : ∀ (k : Nat) o, k ≠ b → w.heap[k]? = some o → ((w.at d1).setCell ⟨b, 0, none⟩ (.chan (some j))).heap[k]? = some o := fun k o hk h => by rw [Below.heap_setCell _ _ _ _ hk]; exact h
    have new : ((w.at d1).setCell ⟨b, 0, none⟩ (.chan (some j))).heap[b]? = some (.cells #[.chan (some j)] 51) := by simp [World.setCell, World.at, hbc, Array.getElem?_modify]
    have hp' : PB W N nv ((w.at d1).setCell ⟨b, 0, none⟩ (.chan (some j))) := ⟨(below_at hp.bl d1).setCell (p := ⟨b, 0, none⟩) (by show W.heap.size ≤ b; omega) _, by simpa [World.at] using hp.size, other _ _ (by omega) hp.n, other _ _ (by omega) hp.c, other _ _ (by omega) hp.o⟩
    have ne : ∀ (k : Nat) o, w.heap[k]? = some o → o ≠ .cells #[c6] 51 → k ≠ b := fun k o h h' e => by subst e; rw [hbc] at h; cases h; exact h' rfl
    generalize (w.at d1).setCell ⟨b, 0, none⟩ (.chan (some j)) = w' at other new hp' ⊢
    (try walk_nrm)
    exact hnext _ _ ⟨by simpa using sz, hp', fun _ => ⟨by rw [Array.getElem?_setIfInBounds_ne (by decide)]; exact l1, by rw [Array.getElem?_setIfInBounds_ne (by decide)]; exact l0⟩, fun h => (d5 (setL h (by decide))).imp (fun x => by rw [Array.getElem?_setIfInBounds_ne (by decide)]; exact x) (fun x => by rw [Array.getElem?_setIfInBounds_ne (by decide)]; exact x), _, v7, _, v15, .chan (some j), c7, rfl, fun h => ⟨j, rfl, hj, other _ _ (ne _ _ hjc (by simp)) hjc⟩, fun h => (n15 (setL h (by decide))).grow fun k o hk hn => other k o (ne k o hk (hn _ _ _)) hk, fun _ => ⟨b, rfl, hb, new⟩, fun h => (n7 (setL h (by decide))).grow fun k o hk => other k _ (ne k _ hk (by simp)) hk,
      fun h h' => hne (setL h (by decide)) (setL h' (by decide)), fun _ => rfl, fun h => h5 (setL h (by decide))⟩
  · have l0 := getL hall.1
    have l1 := getL hall.2.1
    obtain ⟨b, rfl, hb, hbc⟩ := n7 l0
    obtain ⟨j, rfl, hj, hjc⟩ := n15 l1
    refine gd_op rfl rfl (by k_ne) (fun w₁ h₁ K hK => ?_)
    obtain ⟨d1, rfl⟩ := h₁
    have hc : (w.at d1).cell? ⟨b, 0, none⟩ = some c7 := by simp [World.cell?, World.at, hbc]
    have hf : (w.at d1).frozen? ⟨b, 0, none⟩ = false := by simp [World.frozen?, World.at, hbc]
    go_simp
    refine hK _ _ ⟨by simp [World.at], fun e he => ?_⟩ (deafBehind_plain (fun e he => ?_)) ?_
    · have hm := mem_listed he
      simp [go_sem, hc, hf] at hm
      subst hm
      refine ⟨evL_cell _ _ (fun h => ?_) (by simpa [World.at] using (Array.getElem?_eq_some_iff.1 hbc).1), fun b' ad hb' hl => by cases hb'; cases hl; show b ≠ _; omega⟩
      obtain ⟨a, e1, e2⟩ := hS _ h
      cases e1
      simp at e2
      omega
    · have hm := mem_listed he
      simp [go_sem, hc, hf] at hm
      subst hm
      exact ⟨_, _, _, rfl⟩
    clear hK K hc hf
    have other : ∀ (k : Nat) o, k ≠ b → w.heap[k]? = some o → ((w.at d1).setCell ⟨b, 0, none⟩ (.chan (some j))).heap[k]? = some o := fun k o hk h => by rw [Below.heap_setCell _ _ _ _ hk]; exact h
    have new : ((w.at d1).setCell ⟨b, 0, none⟩ (.chan (some j))).heap[b]? = some (.cells #[.chan (some j)] 52) := by simp [World.setCell, World.at, hbc, Array.getElem?_modify]
    have hp' : PB W N nv ((w.at d1).setCell ⟨b, 0, none⟩ (.chan (some j))) := ⟨(below_at hp.bl d1).setCell (p := ⟨b, 0, none⟩) (by show W.heap.size ≤ b; omega) _, by simpa [World.at] using hp.size, other _ _ (by omega) hp.n, other _ _ (by omega) hp.c, other _ _ (by omega) hp.o⟩
    have ne : ∀ (k : Nat) o, w.heap[k]? = some o → o ≠ .cells #[c7] 52 → k ≠ b := fun k o h h' e => by subst e; rw [hbc] at h; cases h; exact h' rfl
    generalize (w.at d1).setCell ⟨b, 0, none⟩ (.chan (some j)) = w' at other new hp' ⊢
    (try walk_nrm)
    exact hnext _ _ ⟨by simpa using sz, hp', fun h => (d4 (setL h (by decide))).imp (fun x => by rw [Array.getElem?_setIfInBounds_ne (by decide)]; exact x) (fun x => by rw [Array.getElem?_setIfInBounds_ne (by decide)]; exact x), fun _ => ⟨by rw [Array.getElem?_setIfInBounds_ne (by decide)]; exact l1, by rw [Array.getElem?_setIfInBounds_ne (by decide)]; exact l0⟩, v6, _, v14, _, c6, .chan (some j), rfl, fun h => (n14 (setL h (by decide))).grow fun k o hk hn => other k o (ne k o hk (hn _ _ _)) hk, fun h => ⟨j, rfl, hj, other _ _ (ne _ _ hjc (by simp)) hjc⟩, fun h => (n6 (setL h (by decide))).grow fun k o hk => other k _ (ne k _ hk (by simp)) hk, fun _ => ⟨b, rfl, hb, new⟩,
      fun h h' => hne (setL h (by decide)) (setL h' (by decide)), fun h => h4 (setL h (by decide)), fun _ => rfl⟩
theorem allD {L : Array Bool} (hs : L.size = 6) (hr : Region.ready .any opsD L = []) : L[0]? = some true ∧ L[1]? = some true ∧ L[2]? = some true ∧ L[3]? = some true ∧ L[4]? = some true ∧ L[5]? = some true := by
  have step : ∀ (j : Nat) (o : Oper), opsD[j]? = some o → j < 6 → (∀ e ∈ o.after, Region.binds .any e = true → L.getD e.on false = true) → L.getD j false = true := by
    intro j o ho hj hd
    cases hb : L.getD j true with
    | true =>
      have h' : j < L.size := by omega
      simpa [Array.getD, h'] using hb
    | false =>
      have : j ∈ Region.ready .any opsD L := mem_ready.2 ⟨hb, o, ho, fun e he hx => hd e he hx⟩
      rw [hr] at this
      cases this
  simp only [opsD, P16, Tryz.f16, Option.getD_some] at step
  have s0 := step 0 _ rfl (by decide) (by simp)
  have t0 := s0
  simp at t0
  have s1 := step 1 _ rfl (by decide) (by simp)
  have t1 := s1
  simp at t1
  have s2 := step 2 _ rfl (by decide) (by simp)
  have t2 := s2
  simp at t2
  have s3 := step 3 _ rfl (by decide) (by simp)
  have t3 := s3
  simp at t3
  have s4 := step 4 _ rfl (by decide) (by simp [Region.binds, t0, t1, t2, t3])
  have t4 := s4
  simp at t4
  have s5 := step 5 _ rfl (by decide) (by simp [Region.binds, t0, t1, t2, t3, t4])
  exact ⟨getL s0, getL s1, getL s2, getL s3, getL s4, getL s5⟩
/-- What stands ahead of the group. -/
structure PG (W : World) (N : Nat) (nv : Int) (keys : Value) (T : Array Value) (w : World) (bJ bE j e : Nat) : Prop where
  size : T.size = 36
  t0 : T[0]? = some keys
  t3 : T[3]? = some (.pointer (some ⟨W.heap.size, 0, none⟩))
  t5 : T[5]? = some (.pointer (some ⟨W.heap.size + 2, 0, none⟩))
  t6 : T[6]? = some (.pointer (some ⟨bJ, 0, none⟩))
  t7 : T[7]? = some (.pointer (some ⟨bE, 0, none⟩))
  pb : PB W N nv w
  hbJ : W.heap.size + 3 ≤ bJ ∧ w.heap[bJ]? = some (.cells #[.chan (some j)] 51)
  hbE : W.heap.size + 3 ≤ bE ∧ w.heap[bE]? = some (.cells #[.chan (some e)] 52)
  hj : W.heap.size + 3 ≤ j ∧ w.heap[j]? = some (.chan 0 #[] false 0 0 false)
  he : W.heap.size + 3 ≤ e ∧ w.heap[e]? = some (.chan 0 #[] false 0 0 false)
  hje : j ≠ e
/-- .. and when the first worker is to be started. -/
structure PF (W : World) (N : Nat) (nv : Int) (keys : Value) (T : Array Value) (w : World) (bJ bE j e g : Nat) : Prop extends PG W N nv keys T w bJ bE j e where
  t8 : T[8]? = some (.pointer (some ⟨g, 0, none⟩))
  hg : W.heap.size + 3 ≤ g ∧ w.heap[g]? = some (.cells #[.int .u64 0, .int .u32 0] 61)
  top : w.heap.size = g + 1
set_option maxHeartbeats 8000000 in
/-- THE BEGIN OF 'shards', to the group. -/
theorem pro_walk (hS : ∀ l, Shun l → ∃ a : Addr, l = .cell a ∧ a.block < W.heap.size) (hN : N ≤ 1000000) {n : Nat}
    (hq : ∀ (T : Array Value) (w : World) (bJ bE j e : Nat), PG W N nv (.slice a0 N cap) T w bJ bE j e → GD Tryz.prog true AtRel (DQ Shun (W.heap.size + 1)) Stop n 0 (G ((base 16).at ⟨T, []⟩ [.code Q16]) cs₀) w) :
    GD Tryz.prog true AtRel (DQ Shun (W.heap.size + 1)) Stop (n + 80) 0 (G ((base 16).at ⟨#[.slice a0 N cap, .int .i64 nv, undef, undef, undef, undef, undef, undef, undef, undef, undef, undef, undef, undef, undef, undef, undef, undef, undef, undef, undef, undef, undef, undef, undef, undef, undef, undef, undef, undef, undef, undef, undef, undef, undef, undef], []⟩ [.code (Tryz.f16.body.getD .skip)]) cs₀) W := by
  have T := tQ Shun (W.heap.size + 1)
  rw [show n + 80 = (n + 40) + 40 by omega]
  refine pro1 hS hN (fun w hp => ?_)
  have e1 : (P16 : Code) = .seq (.region 2 opsD true) Q16 := by simp only [P16, opsD, Q16, Tryz.f16, Option.getD_some]
  rw [e1]
  with_reducible refine gd_c T (G_running _ _) (fun _ => stepG_seq) ?_
  refine GD.mono (n := (n + 20) + 1 * opsD.size + 1) ?_ (by
    have : opsD.size = 6 := by simp only [opsD, P16, Tryz.f16, Option.getD_some]; rfl
    omega)
  refine gd_draw (ops := opsD) (ID W N nv a0 cap) fol (fun w => ⟨Nat.le_refl _, fun e he => by simp at he⟩) (fun w₁ h₁ => ?_) (fun L a w i hI hi rest n hn => opD hS hI hi hn) (fun L a w hI hr => ?_)
  · obtain ⟨d, rfl⟩ := h₁
    exact ⟨by simp only [opsD, P16, Tryz.f16, Option.getD_some]; rfl, ⟨below_at (below_at hp.bl d) _, hp.size, hp.n, hp.c, hp.o⟩, fun h => (noL h).elim, fun h => (noL h).elim, undef, undef, undef, undef, undef, undef, rfl, fun h => (noL h).elim, fun h => (noL h).elim, fun h => (noL h).elim, fun h => (noL h).elim, fun h => (noL h).elim, fun h => (noL h).elim, fun h => (noL h).elim⟩
  obtain ⟨sz, hp, d4, d5, v6, v7, v14, v15, c6, c7, rfl, n14, n15, n6, n7, hne, h4, h5⟩ := hI
  obtain ⟨l0, l1, l2, l3, l4, l5⟩ := allD sz hr
  obtain rfl := h4 l4
  obtain rfl := h5 l5
  have hne := hne l0 l1
  obtain ⟨j, rfl, hj⟩ := n14 l0
  obtain ⟨e, rfl, he⟩ := n15 l1
  obtain ⟨bJ, rfl, hbJ⟩ := n6 l2
  obtain ⟨bE, rfl, hbE⟩ := n7 l3
  have hje : j ≠ e := fun h => hne (by rw [h])
  clear d4 d5 n14 n15 n6 n7 h4 h5 l0 l1 l2 l3 l4 l5 hr sz hne e1
  with_reducible refine gd_c T (G_running _ _) (fun _ => stepG_region_end) ?_
  exact (hq _ w bJ bE j e ⟨rfl, rfl, rfl, rfl, rfl, rfl, hp, hbJ, hbE, hj, he, hje⟩).mono (by omega)
/-- Steps that list nothing. -/
def DE (d : Nat) (w w' : World) (es : Array Event) : Prop := es = #[]
theorem tE : GT AtRel DE := ⟨atRel_trans, fun _ _ => rfl⟩
set_option maxHeartbeats 8000000 in
/-- .. and the group. -/
theorem pro3 {T₀ : Array Value} {w : World} {bJ bE j e n : Nat} (hp : PG W N nv (.slice a0 N cap) T₀ w bJ bE j e)
    (hq : ∀ (T : Array Value) (w' : World), PF W N nv (.slice a0 N cap) T w' bJ bE j e w.heap.size → GD Tryz.prog true AtRel DE Stop n 0 (G ((base 16).at ⟨T, []⟩ [.code S16]) cs₀) w') :
    GD Tryz.prog true AtRel DE Stop (n + 10) 0 (G ((base 16).at ⟨T₀, []⟩ [.code Q16]) cs₀) w := by
  have T := tE
  obtain ⟨v0, v1, v2, v3, v4, v5, v6, v7, v8, v9, v10, v11, v12, v13, v14, v15, v16, v17, v18, v19, v20, v21, v22, v23, v24, v25, v26, v27, v28, v29, v30, v31, v32, v33, v34, v35, rfl⟩ := arr36 T₀ hp.size
  obtain ⟨_, e0, e3, e5, e6, e7, hb, hbJ, hbE, hj, he, hje⟩ := id hp
  simp only [List.getElem?_toArray, List.getElem?_cons_succ, List.getElem?_cons_zero, Option.some.injEq] at e0 e3 e5 e6 e7
  subst e0 e3 e5 e6 e7
  clear hp
  simp only [opsD, Q16, S16, P16, Tryz.f16, Option.getD_some] at hq ⊢
  with_reducible refine gd_c T (G_running _ _) (fun _ => stepG_seq) ?_
  ((with_reducible refine gd_c T (G_running _ _) (fun _ => stepG_region) ?_); simp only [List.size_toArray, List.length_cons, List.length_nil, Nat.reduceAdd, Nat.zero_add, List.range, List.range.loop])
  refine gd_op rfl rfl (by k_ne) (fun w₁ h₁ K hK => ?_)
  obtain ⟨d1, rfl⟩ := h₁
  go_simp
  refine hK _ _ (listed_nil (by simp [go_sem])) (deaf_none (listed_nil (by simp [go_sem]))) ?_
  clear hK K
  rw [at_heap]
  have old : ∀ (k : Nat) o, w.heap[k]? = some o → ((w.at d1).alloc (.cells #[.int .u64 0, .int .u32 0] 61)).heap[k]? = some o := fun k o h => get_alloc_old (w := w.at d1) h
  have new : ((w.at d1).alloc (.cells #[.int .u64 0, .int .u32 0] 61)).heap[w.heap.size]? = some (.cells #[.int .u64 0, .int .u32 0] 61) := get_alloc_new (w.at d1) _
  have top : ((w.at d1).alloc (.cells #[.int .u64 0, .int .u32 0] 61)).heap.size = w.heap.size + 1 := size_alloc _ _
  have hp' : PB W N nv ((w.at d1).alloc (.cells #[.int .u64 0, .int .u32 0] 61)) := ⟨(below_at hb.bl d1).alloc (by have := hb.size; rw [at_heap]; omega) _, by have := hb.size; rw [size_alloc, at_heap]; omega, old _ _ hb.n, old _ _ hb.c, old _ _ hb.o⟩
  have hsz := hb.size
  generalize (w.at d1).alloc (.cells #[.int .u64 0, .int .u32 0] 61) = w' at old new hp' top ⊢
  (try walk_nrm)
  with_reducible refine gd_c T (G_running _ _) (fun _ => stepG_region_end) ?_
  exact (hq _ w' ⟨⟨rfl, rfl, rfl, rfl, rfl, rfl, hp', ⟨hbJ.1, old _ _ hbJ.2⟩, ⟨hbE.1, old _ _ hbE.2⟩, ⟨hj.1, old _ _ hj.2⟩, ⟨he.1, old _ _ he.2⟩, hje⟩, rfl, ⟨hsz, new⟩, top⟩).mono (by omega)
end
end Go.Proofs.YtacimedkchjfnaaGreat
end

section
/-! What a tree of operations asks for lies within a set of blocks: the judgement, and its rules. -/
namespace Go.Proofs.YtacimedkchjfnaaGreat
set_option linter.unusedSimpArgs false
set_option linter.unusedVariables false

/-- The blocks, and the functions, that values may name. -/
structure Sc where
  b : Nat → Prop
  f : Fn → Prop
  /-- cells that came in, each of one text -/
  k : Addr → Prop := fun _ => False
  /-- by function: the slots that may name them -/
  d : Nat → Nat → Bool := fun _ _ => false
  /-- no word to the one who watches for races -/
  q : Bool := false
def QuietM : Mark → Prop
  | .noRoom | .extern _ => True
  | _ => False
/-- A word that is no touch of memory. -/
def NoSaid : Mark → Prop
  | .read _ | .write _ => False
  | _ => True

/-- Every block that the value names lies in S. -/
inductive Cl (S : Sc) : Value → Prop
  | bool (b : Bool) : Cl S (.bool b)
  | int (k : IntKind) (n : Int) : Cl S (.int k n)
  | string (s : ByteArray) : Cl S (.string s)
  | ptr0 : Cl S (.pointer none)
  | ptr (a : Addr) (h : S.b a.block) : Cl S (.pointer (some a))
  | slice0 (n c : Nat) : Cl S (.slice none n c)
  | slice (a : Addr) (n c : Nat) (h : S.b a.block) : Cl S (.slice (some a) n c)
  | map0 : Cl S (.map none)
  | chan0 : Cl S (.chan none)
  | chan (r : Nat) (h : S.b r) : Cl S (.chan (some r))
  | func (fn : Fn) (first cap : Array Value) (h : S.f fn) (h1 : ∀ x ∈ first, Cl S x) (h2 : ∀ x ∈ cap, Cl S x) : Cl S (.func fn first cap)
  | nilFunc : Cl S .nilFunc
  | iface (t : TypeId) (v : Value) (h : Cl S v) : Cl S (.iface t v)
  | nilIface : Cl S .nilIface
  | agg (cs : Array Value) (h : ∀ x ∈ cs, Cl S x) : Cl S (.agg cs)
  | tuple (cs : Array Value) (h : ∀ x ∈ cs, Cl S x) : Cl S (.tuple cs)

def ClA (S : Sc) (vs : Array Value) : Prop := ∀ x ∈ vs, Cl S x
def ClL (S : Sc) (vs : List Value) : Prop := ∀ x ∈ vs, Cl S x

/-- An object all of whose values are so; channels, loops, numbers and the like are none. -/
inductive ClO (S : Sc) : Obj → Prop
  | cells (c : Array Value) (e : TypeId) (f : Nat × Nat) (h : ClA S c) : ClO S (.cells c e f)
  | stringIter (s : ByteArray) (n : Nat) : ClO S (.stringIter s n)
  | view (a : Addr) (t : TypeId) (h : S.b a.block) : ClO S (.view a t)
  | mapIter0 (n : Nat) (s : Array Nat) (m : Nat) : ClO S (.mapIter none n s m)
  | number (a : Addr) (l : Bool) (h : S.b a.block) : ClO S (.number a l)

/-- A call of the system that never waits. -/
def Prompt (c : Sys) : Prop := ∀ w : World, (w.ask (Kernel.perform c w.os)).1.1 ≠ .wouldBlock

/-- The ways in which an operation may stop here. -/
def UnsOk : Unsupported → Prop
  | .initOrder _ => False
  | _ => True
def HaltOk (S : Sc) : Halt → Prop
  | .panic v => Cl S v
  | .blocked | .fatal _ | .throw _ | .stuck _ => True
  | .unsupported u => UnsOk u
  | _ => False

section
variable {α β : Type} (S : Sc) (P : Program)

/-- WHATEVER THE TREE ASKS FOR LIES IN S, as long as S's own objects name S's blocks alone; what it yields satisfies φ; a panic's value is so too. -/
def Av (φ : α → Prop) : Sem α → Prop
  | .pure a => φ a
  | .load _ a k => S.b a.block ∧ ∀ v, Cl S v → Av φ (k v)
  | .store _ a v k => S.b a.block ∧ Cl S v ∧ Av φ k
  | .new o k => ClO S o ∧ ∀ r, S.b r → Av φ (k r)
  | .shape r k => S.b r ∧ ∀ x, Av φ (k x)
  | .freeze a _ k => S.b a.block ∧ Av φ k
  | .frozen a k => S.b a.block ∧ ∀ b, Av φ (k b)
  | .getObj r k => S.b r ∧ ∀ o, ClO S o → Av φ (k o)
  | .setObj r o k => S.b r ∧ ClO S o ∧ Av φ k
  | .choose _ k => ∀ n, Av φ (k n)
  | .sys c k => Prompt c ∧ ∀ r, Av φ (k r)
  | .program k => Av φ (k P)
  | .mark m k => ((S.q = true → QuietM m) ∧ NoSaid m) ∧ Av φ k
  | .halt h => HaltOk S h

variable {S P}
theorem av_mono {φ ψ : α → Prop} (h : ∀ a, φ a → ψ a) : ∀ {s : Sem α}, Av S P φ s → Av S P ψ s := by
  intro s
  induction s with
  | pure a => exact h a
  | load m a k ih => exact fun x => ⟨x.1, fun v hv => ih v (x.2 v hv)⟩
  | store m a v k ih => exact fun x => ⟨x.1, x.2.1, ih x.2.2⟩
  | new o k ih => exact fun x => ⟨x.1, fun r hr => ih r (x.2 r hr)⟩
  | shape r k ih => exact fun x => ⟨x.1, fun y => ih y (x.2 y)⟩
  | freeze a n k ih => exact fun x => ⟨x.1, ih x.2⟩
  | frozen a k ih => exact fun x => ⟨x.1, fun b => ih b (x.2 b)⟩
  | getObj r k ih => exact fun x => ⟨x.1, fun o ho => ih o (x.2 o ho)⟩
  | setObj r o k ih => exact fun x => ⟨x.1, x.2.1, ih x.2.2⟩
  | choose q k ih => exact fun x n => ih n (x n)
  | sys c k ih => exact fun x => ⟨x.1, fun r => ih r (x.2 r)⟩
  | program k ih => exact fun x => ih P x
  | mark m k ih => exact fun x => ⟨x.1, ih x.2⟩
  | halt h => exact fun x => x

theorem av_bind {φ : β → Prop} {f : α → Sem β} : ∀ {s : Sem α}, Av S P (fun a => Av S P φ (f a)) s → Av S P φ (s >>= f) := by
  intro s
  show Av S P (fun a => Av S P φ (f a)) s → Av S P φ (s.bind f)
  induction s with
  | pure a => exact id
  | load m a k ih => exact fun x => ⟨x.1, fun v hv => ih v (x.2 v hv)⟩
  | store m a v k ih => exact fun x => ⟨x.1, x.2.1, ih x.2.2⟩
  | new o k ih => exact fun x => ⟨x.1, fun r hr => ih r (x.2 r hr)⟩
  | shape r k ih => exact fun x => ⟨x.1, fun y => ih y (x.2 y)⟩
  | freeze a n k ih => exact fun x => ⟨x.1, ih x.2⟩
  | frozen a k ih => exact fun x => ⟨x.1, fun b => ih b (x.2 b)⟩
  | getObj r k ih => exact fun x => ⟨x.1, fun o ho => ih o (x.2 o ho)⟩
  | setObj r o k ih => exact fun x => ⟨x.1, x.2.1, ih x.2.2⟩
  | choose q k ih => exact fun x n => ih n (x n)
  | sys c k ih => exact fun x => ⟨x.1, fun r => ih r (x.2 r)⟩
  | program k ih => exact fun x => ih P x
  | mark m k ih => exact fun x => ⟨x.1, ih x.2⟩
  | halt h => exact fun x => x

theorem sem_bind_pure {α : Type} : ∀ s : Sem α, s.bind .pure = s := by
  intro s
  induction s with
  | frozen a k ih => simp only [Sem.bind, ih]
  | _ => simp_all [Sem.bind]
theorem sem_bind_assoc {α β γ : Type} (f : α → Sem β) (g : β → Sem γ) : ∀ s : Sem α, (s.bind f).bind g = s.bind fun a => (f a).bind g := by
  intro s
  induction s with
  | frozen a k ih => simp only [Sem.bind, ih]
  | _ => simp_all [Sem.bind]
instance : LawfulMonad Sem := LawfulMonad.mk' Sem (fun s => sem_bind_pure s) (fun _ _ => rfl) (fun s f g => sem_bind_assoc f g s)

/-- .. in the order in which one proves it. -/
theorem av_then {φ : β → Prop} (ψ : α → Prop) {f : α → Sem β} {s : Sem α} (h : Av S P ψ s) (hf : ∀ a, ψ a → Av S P φ (f a)) : Av S P φ (s >>= f) := av_bind (av_mono hf h)

theorem av_pure {φ : α → Prop} {a : α} (h : φ a) : Av S P φ (pure a : Sem α) := h
theorem av_stuck {φ : α → Prop} (why : String) : Av S P φ (stuck why : Sem α) := trivial
theorem av_unsupported {φ : α → Prop} (u : Unsupported) (h : UnsOk u := by trivial) : Av S P φ (unsupported u : Sem α) := h
theorem av_goPanic {φ : α → Prop} {v : Value} (h : Cl S v) : Av S P φ (goPanic v : Sem α) := h
theorem av_fatal {φ : α → Prop} (m : String) : Av S P φ (fatal m : Sem α) := trivial
theorem av_throw {φ : α → Prop} (m : String) : Av S P φ (throw m : Sem α) := trivial
theorem av_blocked {φ : α → Prop} : Av S P φ (blocked : Sem α) := trivial
theorem av_load {φ : Value → Prop} {a : Addr} {m : Mode} (ha : S.b a.block) (h : ∀ v, Cl S v → φ v) : Av S P φ (load a m) := ⟨ha, h⟩
theorem av_store {φ : Unit → Prop} {a : Addr} {v : Value} {m : Mode} (ha : S.b a.block) (hv : Cl S v) (h : φ ()) : Av S P φ (store a v m) := ⟨ha, hv, h⟩
theorem av_newObj {φ : Nat → Prop} {o : Obj} (ho : ClO S o) (h : ∀ r, S.b r → φ r) : Av S P φ (newObj o) := ⟨ho, h⟩
theorem av_shape {φ : Option (TypeId × Nat) → Prop} {r : Nat} (hr : S.b r) (h : ∀ x, φ x) : Av S P φ (shape r) := ⟨hr, h⟩
theorem av_freeze {φ : Unit → Prop} {a : Addr} {n : Nat} (hr : S.b a.block) (h : φ ()) : Av S P φ (freeze a n) := ⟨hr, h⟩
theorem av_frozen {φ : Bool → Prop} {a : Addr} (hr : S.b a.block) (h : ∀ b, φ b) : Av S P φ (frozen a) := ⟨hr, h⟩
theorem av_getObj {φ : Obj → Prop} {r : Nat} (hr : S.b r) (h : ∀ o, ClO S o → φ o) : Av S P φ (getObj r) := ⟨hr, h⟩
theorem av_setObj {φ : Unit → Prop} {r : Nat} {o : Obj} (hr : S.b r) (ho : ClO S o) (h : φ ()) : Av S P φ (setObj r o) := ⟨hr, ho, h⟩
theorem av_choose {φ : Nat → Prop} {q : Question} (h : ∀ n, φ n) : Av S P φ (choose q) := h
theorem av_program {φ : Program → Prop} (h : φ P) : Av S P φ program := h
theorem av_mark {φ : Unit → Prop} {m : Mark} (hm : (S.q = true → QuietM m) ∧ NoSaid m) (h : φ ()) : Av S P φ (mark m) := ⟨hm, h⟩
theorem av_askRoom {φ : Unit → Prop} {n : Nat} (h : φ ()) : Av S P φ (askRoom n) := by
  unfold askRoom
  split
  · exact av_mark ⟨fun _ => trivial, trivial⟩ h
  · exact h
theorem av_typeInfo {φ : TypeInfo → Prop} {t : TypeId} (h : ∀ i, P.info? t = some i → φ i) : Av S P φ (typeInfo t) := by
  unfold typeInfo
  refine av_bind (av_program ?_)
  split
  · exact h _ ‹_›
  · exact av_stuck _
theorem av_underlying {φ : TypeDesc → Prop} {t : TypeId} (h : ∀ d, φ d) : Av S P φ (underlying t) := by
  unfold underlying
  refine av_bind (av_program ?_)
  split
  · exact h _
  · exact av_stuck _
theorem av_underlying' {φ : TypeDesc → Prop} {t : TypeId} (h : ∀ d, P.underlying t = some d → φ d) : Av S P φ (underlying t) := by
  unfold underlying
  refine av_bind (av_program ?_)
  split
  · exact h _ ‹_›
  · exact av_stuck _
theorem av_sizeOf {φ : Nat → Prop} {t : TypeId} (h : ∀ n, φ n) : Av S P φ (sizeOf t) := by
  unfold sizeOf
  exact av_bind (av_typeInfo fun i _ => h _)
theorem av_isAgg {φ : Bool → Prop} {t : TypeId} (h : ∀ n, φ n) : Av S P φ (isAgg t) := by
  unfold isAgg
  refine av_bind (av_underlying fun d => ?_)
  split <;> exact h _
theorem av_elemOf {φ : TypeId → Prop} {t : TypeId} (h : ∀ n, φ n) : Av S P φ (elemOf t) := by
  unfold elemOf
  refine av_bind (av_underlying fun d => ?_)
  split
  · exact h _
  · exact av_stuck _
theorem av_typeStr {φ : String → Prop} {t : TypeId} (h : ∀ n, φ n) : Av S P φ (typeStr t) := by
  unfold typeStr
  refine av_bind (av_typeInfo fun d _ => ?_)
  dsimp only
  split
  · exact av_unsupported _
  · exact h _
end

section
variable {S : Sc} {P : Program}
theorem Cl.cells {v : Value} (h : Cl S v) : ClA S v.cells := by
  cases h with
  | agg cs h => exact h
  | _ => intro x hx; simp [Value.cells] at hx; subst hx; first | exact .bool _ | exact .int _ _ | exact .string _ | exact .ptr0 | exact .ptr _ ‹_› | exact .slice0 _ _ | exact .slice _ _ _ ‹_› | exact .map0 | exact .chan0 | exact .chan _ ‹_› | exact .func _ _ _ ‹_› ‹_› ‹_› | exact .nilFunc | exact .iface _ _ ‹_› | exact .nilIface | exact .tuple _ ‹_›
theorem Cl.ptr_inv {a : Addr} (h : Cl S (.pointer (some a))) : S.b a.block := by cases h; assumption
theorem Cl.slice_inv {a : Addr} {n c : Nat} (h : Cl S (.slice (some a) n c)) : S.b a.block := by cases h; assumption
theorem Cl.slice_len {a : Option Addr} {n c n' c' : Nat} (h : Cl S (.slice a n c)) : Cl S (.slice a n' c') := by
  cases h with
  | slice0 => exact .slice0 _ _
  | slice a n c h => exact .slice _ _ _ h
theorem Cl.agg_inv {cs : Array Value} (h : Cl S (.agg cs)) : ClA S cs := by cases h; assumption
theorem Cl.tuple_inv {cs : Array Value} (h : Cl S (.tuple cs)) : ClA S cs := by cases h; assumption
theorem Cl.iface_inv {t : TypeId} {v : Value} (h : Cl S (.iface t v)) : Cl S v := by cases h; assumption
theorem Cl.func_inv {fn : Fn} {a b : Array Value} (h : Cl S (.func fn a b)) : S.f fn ∧ ClA S a ∧ ClA S b := by cases h; exact ⟨‹_›, ‹_›, ‹_›⟩
theorem Cl.mono {S' : Sc} (hS : ∀ r, S.b r → S'.b r) (hF : ∀ r, S.f r → S'.f r) {v : Value} (h : Cl S v) : Cl S' v := by
  induction h with
  | bool => exact .bool _
  | int => exact .int _ _
  | string => exact .string _
  | ptr0 => exact .ptr0
  | ptr a h => exact .ptr a (hS _ h)
  | slice0 => exact .slice0 _ _
  | slice a n c h => exact .slice a n c (hS _ h)
  | map0 => exact .map0
  | chan0 => exact .chan0
  | chan r h => exact .chan r (hS _ h)
  | func fn a b h _ _ h1 h2 => exact .func fn a b (hF _ h) h1 h2
  | nilFunc => exact .nilFunc
  | iface t v _ ih => exact .iface t v ih
  | nilIface => exact .nilIface
  | agg cs _ ih => exact .agg cs ih
  | tuple cs _ ih => exact .tuple cs ih
theorem cl_undef : Cl S undef := .tuple _ (by simp)
theorem add_block' (a : Addr) (n : Nat) : (a.add n).block = a.block := by unfold Addr.add; split <;> rfl
theorem ClA.get {vs : Array Value} (h : ClA S vs) {i : Nat} {v : Value} (hv : vs[i]? = some v) : Cl S v := h v (Array.mem_of_getElem? hv)
theorem ClA.getD {vs : Array Value} (h : ClA S vs) (i : Nat) : Cl S (vs.getD i undef) := by
  rw [Array.getD_eq_getD_getElem?]
  cases hv : vs[i]? with
  | none => exact cl_undef
  | some v => exact h.get hv
theorem ClA.push {vs : Array Value} (h : ClA S vs) {v : Value} (hv : Cl S v) : ClA S (vs.push v) := by
  intro x hx
  rcases Array.mem_push.1 hx with hx | rfl
  · exact h x hx
  · exact hv
theorem ClA.set {vs : Array Value} (h : ClA S vs) {v : Value} (hv : Cl S v) (i : Nat) : ClA S (vs.setIfInBounds i v) := by
  intro x hx
  obtain ⟨j, hj⟩ := Array.getElem?_of_mem hx
  rw [Array.getElem?_setIfInBounds] at hj
  split at hj
  · split at hj
    · simp at hj; subst hj; exact hv
    · cases hj
  · exact h.get hj
theorem ClA.append {a b : Array Value} (h : ClA S a) (h' : ClA S b) : ClA S (a ++ b) := fun x hx => (Array.mem_append.1 hx).elim (h x) (h' x)
theorem ClA.extract {a : Array Value} (h : ClA S a) (i j : Nat) : ClA S (a.extract i j) := fun x hx => h x (by
  obtain ⟨k, hk⟩ := Array.getElem?_of_mem hx
  rw [Array.getElem?_extract] at hk
  split at hk
  · exact Array.mem_of_getElem? hk
  · cases hk)
theorem ClA.empty : ClA S #[] := by simp [ClA]
theorem ClA.one {v : Value} (h : Cl S v) : ClA S #[v] := by simpa [ClA] using h
theorem ClA.toList {a : Array Value} (h : ClA S a) : ClL S a.toList := fun x hx => h x (by simpa using hx)
theorem ClA.replicate {v : Value} (h : Cl S v) (n : Nat) : ClA S (Array.replicate n v) := fun x hx => by rw [Array.mem_replicate] at hx; rw [hx.2]; exact h
end
end Go.Proofs.YtacimedkchjfnaaGreat
end
