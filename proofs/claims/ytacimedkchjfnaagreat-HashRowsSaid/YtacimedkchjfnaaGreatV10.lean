/- Part 10 of the proof: C8a, C8b, C9, C10, C11, C12. -/
import Derived.Test.YtacimedkchjfnaaGreatV08
import Derived.Test.YtacimedkchjfnaaGreatV09
import Derived.Conc.CompanyDraw
import Derived.Conc.EventLaws
section
/-! Shard in company. -/
namespace Go.Proofs.YtacimedkchjfnaaGreat
set_option linter.unusedSimpArgs false
set_option linter.unusedVariables false
set_option maxRecDepth 100000
open Go.Conc Go.RowKit Go.Conc.Lib Go.ConcR.Gen
noncomputable def B13 : Code := match Tryz.f13.body.getD .skip with
  | .seq _ (.seq _ (.seq (.seq _ (.block _ (.loop c))) _)) => c
  | _ => .skip
noncomputable def K13 : Code := match Tryz.f13.body.getD .skip with
  | .seq _ (.seq _ (.seq _ c)) => c
  | _ => .skip
theorem und9 : Tryz.prog.underlying 9 = some .string := by kernel_rfl
theorem ev_index (s : ByteArray) (i : Nat) (hi : i < s.size) (w : World) (es : Array Event) : (Instr.index 9 (.string s) (.int .i64 (i : Int))).events Tryz.prog w es = es := by
  have h0 : s[i]? = some s[i] := by simp [hi]
  simp only [Instr.index, asIntOf, Sem.events_bind, Sem.run_pure, Sem.events_pure, Result.evThen_ok, run_underlying und9, events_underlying, Int.natCast_nonneg, if_true, Int.toNat_natCast, h0]
@[go_sem] theorem ev_len9 (s : ByteArray) (ty : TypeId) (w : World) (es : Array Event) : (Builtin.len_ #[9] ty #[.string s]).events Tryz.prog w es = es := by
  simp [Builtin.len_, run_underlying und9]
@[go_sem] theorem ev_min2 (P : Program) (ts : Array TypeId) (t : TypeId) (k k' : IntKind) (x y : Int) (w : World) (es : Array Event) : (Builtin.min_ ts t #[.int k x, .int k' y]).events P w es = es := by
  simp [Builtin.min_, Builtin.min2]
@[go_sem] theorem ev_max2 (P : Program) (ts : Array TypeId) (t : TypeId) (k k' : IntKind) (x y : Int) (w : World) (es : Array Event) : (Builtin.max_ ts t #[.int k x, .int k' y]).events P w es = es := by
  simp [Builtin.max_, Builtin.max2]
@[go_sem] theorem ru_max2 (P : Program) (ts : Array TypeId) (t : TypeId) (k k' : IntKind) (x y : Int) (w : World) : (Builtin.max_ ts t #[.int k x, .int k' y]).run P w = .ok (.int k (if y > x then y else x)) w := by
  simp [Builtin.max_, Builtin.max2]
section
variable {main : Bool} {R : World → World → Prop} {D : Nat → World → World → Array Event → Prop} {Stop : Nat → Goroutine → World → Prop} {n d : Nat} {w : World}
variable {b₀ : Frame} {a₀ : Act} {ops₀ : Array Oper} {i₀ : Nat} {rest₀ : List Nat} {k₀ : List Item} {cs₀ : List Frame}
set_option maxHeartbeats 4000000 in
theorem sum_loop (T : GT R D) (s : ByteArray) (hs : s.size ≤ 140737488355328)
    (hq : GD Tryz.prog main R D Stop n d (G (b₀.at (a₀.put ((ops₀[i₀]?).bind (·.dst)) (.int .u64 (hsum s : Nat))) (.inRegion ops₀ rest₀ :: k₀)) cs₀) w) :
    ∀ (r i : Nat), i + r = s.size → ∀ v2 v4 v8 v9 v10 v11 v12 v13 v14 v15 v16 v17 v18 : Value,
      GD Tryz.prog main R D Stop (n + 30 + 60 * r) d (G ((base 13).at ⟨#[.string s, undef, v2, .int .u64 (hsumL (s.data.toList.take i) : Nat), v4, .string s, .int .i64 s.size, .int .i64 i, v8, v9, v10, v11, v12, v13, v14, v15, v16, v17, v18], []⟩ [.code B13, .inLoop B13, .inBlock 0, .code K13]) (b₀.at a₀ (.inRegion ops₀ (i₀ :: rest₀) :: k₀) :: cs₀)) w := by
  intro r
  induction r with
  | zero =>
    intro i hi v2 v4 v8 v9 v10 v11 v12 v13 v14 v15 v16 v17 v18
    have hl : ((i : Int) < (s.size : Int)) = False := by simp; omega
    have e : hsumL (s.data.toList.take i) = hsum s := by rw [show i = s.size by omega, hsumL_all]
    rw [e]
    simp only [B13, K13, Tryz.f13, Option.getD_some]
    with_reducible refine gd_c T (G_running _ _) (fun _ => stepG_seq) ?_
    ((with_reducible refine gd_c T (G_running _ _) (fun _ => stepG_region) ?_); simp only [List.size_toArray, List.length_cons, List.length_nil, Nat.reduceAdd, Nat.zero_add, List.range, List.range.loop])
    (co_applyP gd_val T rfl rfl (by k_ne) ?_ ?_ ?_; (focus (intro _ K hK; go_simp; (try w_num); exact hK)); (focus (intro _; simp [go_sem, *]; done)); (try walk_nrm))
    with_reducible refine gd_c T (G_running _ _) (fun _ => stepG_region_end) ?_
    with_reducible refine gd_c T (G_running _ _) (fun _ => stepG_seq) ?_
    (refine gd_c T rfl (fun _ => stepG_cond (t := false) rfl) ?_; simp only [if_true, if_false, Bool.false_eq_true, ↓reduceIte])
    refine gd_c T rfl (fun _ => stepG_exit rfl) ?_
    with_reducible refine gd_c T (G_running _ _) (fun _ => stepG_seq) ?_
    ((with_reducible refine gd_c T (G_running _ _) (fun _ => stepG_region) ?_); simp only [List.size_toArray, List.length_cons, List.length_nil, Nat.reduceAdd, Nat.zero_add, List.range, List.range.loop])
    (co_applyP gd_val T rfl rfl (by k_ne) ?_ ?_ ?_; (focus (intro _ K hK; go_simp; (try w_num); exact hK)); (focus (intro _; simp [go_sem, *]; done)); (try walk_nrm))
    (co_applyP gd_val T rfl rfl (by k_ne) ?_ ?_ ?_; (focus (intro _ K hK; go_simp; (try w_num); exact hK)); (focus (intro _; simp [go_sem, *]; done)); (try walk_nrm))
    with_reducible refine gd_c T (G_running _ _) (fun _ => stepG_region_end) ?_
    with_reducible refine gd_c T (G_running _ _) (fun _ => stepG_ret') ?_
    (refine gd_leave1 T rfl rfl Tryz.func13 rfl ?_; (try walk_nrm))
    exact hq.mono (by omega)
  | succ r ih =>
    intro i hi v2 v4 v8 v9 v10 v11 v12 v13 v14 v15 v16 v17 v18
    have hl : ((i : Int) < (s.size : Int)) = True := by simp; omega
    have hlt : i < s.size := by omega
    have ih := ih (i + 1) (by omega)
    simp only [B13, K13, Tryz.f13, Option.getD_some] at ih ⊢
    have HS := fnv_step (hsumL (s.data.toList.take i)) s[i].toNat (hsumL_lt _) (by have := s[i].toNat_lt; omega)
    rw [show n + 30 + 60 * (r + 1) = (n + 30 + 60 * r) + 60 by omega]
    with_reducible refine gd_c T (G_running _ _) (fun _ => stepG_seq) ?_
    ((with_reducible refine gd_c T (G_running _ _) (fun _ => stepG_region) ?_); simp only [List.size_toArray, List.length_cons, List.length_nil, Nat.reduceAdd, Nat.zero_add, List.range, List.range.loop])
    (co_applyP gd_val T rfl rfl (by k_ne) ?_ ?_ ?_; (focus (intro _ K hK; go_simp; (try w_num); exact hK)); (focus (intro _; simp [go_sem, *]; done)); (try walk_nrm))
    with_reducible refine gd_c T (G_running _ _) (fun _ => stepG_region_end) ?_
    with_reducible refine gd_c T (G_running _ _) (fun _ => stepG_seq) ?_
    (refine gd_c T rfl (fun _ => stepG_cond (t := true) rfl) ?_; simp only [if_true, if_false, Bool.false_eq_true, ↓reduceIte])
    with_reducible refine gd_c T (G_running _ _) (fun _ => stepG_skip) ?_
    with_reducible refine gd_c T (G_running _ _) (fun _ => stepG_seq) ?_
    with_reducible refine gd_c T (G_running _ _) (fun _ => stepG_block) ?_
    with_reducible refine gd_c T (G_running _ _) (fun _ => stepG_seq) ?_
    ((with_reducible refine gd_c T (G_running _ _) (fun _ => stepG_region) ?_); simp only [List.size_toArray, List.length_cons, List.length_nil, Nat.reduceAdd, Nat.zero_add, List.range, List.range.loop])
    (co_applyP gd_val T rfl rfl (by k_ne) ?_ ?_ ?_; (focus (intro _ K hK; go_simp; (try w_num); exact hK)); (focus (intro _; simp [go_sem, *]; done)); (try walk_nrm))
    (co_applyP gd_val T rfl rfl (by k_ne) ?_ ?_ ?_; (focus (intro _ K hK; go_simp; (try w_num); exact hK)); (focus (intro _; simp [go_sem, *]; done)); (try walk_nrm))
    with_reducible refine gd_c T (G_running _ _) (fun _ => stepG_region_end) ?_
    ((with_reducible refine gd_c T (G_running _ _) (fun _ => stepG_region) ?_); simp only [List.size_toArray, List.length_cons, List.length_nil, Nat.reduceAdd, Nat.zero_add, List.range, List.range.loop])
    (co_applyP gd_val T rfl rfl (by k_ne) ?_ ?_ ?_; (focus (intro _ K hK; go_simp; (try w_num); exact hK)); (focus (intro _; simp [go_sem, *]; done)); (try walk_nrm))
    (co_applyP gd_val T rfl rfl (by k_ne) ?_ ?_ ?_; (focus (intro _ K hK; go_simp; (try w_num); exact hK)); (focus (intro _; simp [go_sem, *]; done)); (try walk_nrm))
    (co_applyP gd_val T rfl rfl (by k_ne) ?_ ?_ ?_; (focus (intro _ K hK; go_simp; (try w_num); exact hK)); (focus (intro _; simp [go_sem, *]; done)); (try walk_nrm))
    (co_applyP gd_val T rfl rfl (by k_ne) ?_ ?_ ?_; (focus (intro _ K hK; go_simp; (try w_num); exact hK)); (focus (intro _; simp [go_sem, ev_index s i hlt]; done)); (try walk_nrm))
    (co_applyP gd_val T rfl rfl (by k_ne) ?_ ?_ ?_; (focus (intro _ K hK; go_simp; (try w_num); exact hK)); (focus (intro _; simp [go_sem, *]; done)); (try walk_nrm))
    (co_applyP gd_val T rfl rfl (by k_ne) ?_ ?_ ?_; (focus (intro _ K hK; go_simp; (try w_num); exact hK)); (focus (intro _; simp [go_sem, *]; done)); (try walk_nrm))
    (co_applyP gd_val T rfl rfl (by k_ne) ?_ ?_ ?_; (focus (intro _ K hK; go_simp; (try w_num); exact hK)); (focus (intro _; simp [go_sem, *]; done)); (try walk_nrm))
    (co_applyP gd_val T rfl rfl (by k_ne) ?_ ?_ ?_; (focus (intro _ K hK; go_simp; (try w_num); exact hK)); (focus (intro _; simp [go_sem, *]; done)); (try walk_nrm))
    with_reducible refine gd_c T (G_running _ _) (fun _ => stepG_region_end) ?_
    with_reducible refine gd_c T (G_running _ _) (fun _ => stepG_inBlock) ?_
    ((with_reducible refine gd_c T (G_running _ _) (fun _ => stepG_region) ?_); simp only [List.size_toArray, List.length_cons, List.length_nil, Nat.reduceAdd, Nat.zero_add, List.range, List.range.loop])
    (co_applyP gd_val T rfl rfl (by k_ne) ?_ ?_ ?_; (focus (intro _ K hK; go_simp; (try w_num); exact hK)); (focus (intro _; simp [go_sem, *]; done)); (try walk_nrm))
    (co_applyP gd_val T rfl rfl (by k_ne) ?_ ?_ ?_; (focus (intro _ K hK; go_simp; (try w_num); exact hK)); (focus (intro _; simp [go_sem, *]; done)); (try walk_nrm))
    with_reducible refine gd_c T (G_running _ _) (fun _ => stepG_region_end) ?_
    with_reducible refine gd_c T (G_running _ _) (fun _ => stepG_inLoop) ?_
    have e1 : IntKind.i64.wrap ((i : Int) + 1) = ((i + 1 : Nat) : Int) := by rw [IntKind.wrap_i64]; omega
    rw [IntKind.wrap_u64, IntKind.wrap_u64, ← hsumL_snoc, ← take_snoc s i hlt] at HS
    simp only [e1, HS]
    exact (ih _ _ _ _ _ _ _ _ _ _ _ _ _).mono (by omega)
theorem sum_walk (T : GT R D) (s : ByteArray) (hs : s.size ≤ 140737488355328)
    (hq : GD Tryz.prog main R D Stop n d (G (b₀.at (a₀.put ((ops₀[i₀]?).bind (·.dst)) (.int .u64 (hsum s : Nat))) (.inRegion ops₀ rest₀ :: k₀)) cs₀) w) :
    GD Tryz.prog main R D Stop (n + 60 + 60 * s.size) d (G ((base 13).at ⟨#[.string s, undef, undef, undef, undef, undef, undef, undef, undef, undef, undef, undef, undef, undef, undef, undef, undef, undef, undef], []⟩ [.code (Tryz.f13.body.getD .skip)]) (b₀.at a₀ (.inRegion ops₀ (i₀ :: rest₀) :: k₀) :: cs₀)) w := by
  have hl := sum_loop T s hs hq s.size 0 (by omega)
  rw [show n + 60 + 60 * s.size = (n + 30 + 60 * s.size) + 30 by omega]
  simp only [B13, K13, Tryz.f13, Option.getD_some] at hl ⊢
  with_reducible refine gd_c T (G_running _ _) (fun _ => stepG_seq) ?_
  ((with_reducible refine gd_c T (G_running _ _) (fun _ => stepG_region) ?_); simp only [List.size_toArray, List.length_cons, List.length_nil, Nat.reduceAdd, Nat.zero_add, List.range, List.range.loop])
  (co_applyP gd_val T rfl rfl (by k_ne) ?_ ?_ ?_; (focus (intro _ K hK; go_simp; (try w_num); exact hK)); (focus (intro _; simp [go_sem, *]; done)); (try walk_nrm))
  with_reducible refine gd_c T (G_running _ _) (fun _ => stepG_region_end) ?_
  with_reducible refine gd_c T (G_running _ _) (fun _ => stepG_seq) ?_
  ((with_reducible refine gd_c T (G_running _ _) (fun _ => stepG_region) ?_); simp only [List.size_toArray, List.length_cons, List.length_nil, Nat.reduceAdd, Nat.zero_add, List.range, List.range.loop])
  (co_applyP gd_val T rfl rfl (by k_ne) ?_ ?_ ?_; (focus (intro _ K hK; go_simp; (try w_num); exact hK)); (focus (intro _; simp [go_sem, *]; done)); (try walk_nrm))
  with_reducible refine gd_c T (G_running _ _) (fun _ => stepG_region_end) ?_
  with_reducible refine gd_c T (G_running _ _) (fun _ => stepG_seq) ?_
  with_reducible refine gd_c T (G_running _ _) (fun _ => stepG_seq) ?_
  ((with_reducible refine gd_c T (G_running _ _) (fun _ => stepG_region) ?_); simp only [List.size_toArray, List.length_cons, List.length_nil, Nat.reduceAdd, Nat.zero_add, List.range, List.range.loop])
  (co_applyP gd_val T rfl rfl (by k_ne) ?_ ?_ ?_; (focus (intro _ K hK; go_simp; (try w_num); exact hK)); (focus (intro _; simp [go_sem, *]; done)); (try walk_nrm))
  (co_applyP gd_val T rfl rfl (by k_ne) ?_ ?_ ?_; (focus (intro _ K hK; go_simp; (try w_num); exact hK)); (focus (intro _; simp [go_sem, *]; done)); (try walk_nrm))
  (co_applyP gd_val T rfl rfl (by k_ne) ?_ ?_ ?_; (focus (intro _ K hK; go_simp; (try w_num); exact hK)); (focus (intro _; simp [go_sem, *]; done)); (try walk_nrm))
  with_reducible refine gd_c T (G_running _ _) (fun _ => stepG_region_end) ?_
  with_reducible refine gd_c T (G_running _ _) (fun _ => stepG_block) ?_
  with_reducible refine gd_c T (G_running _ _) (fun _ => stepG_loop) ?_
  exact (hl _ _ _ _ _ _ _ _ _ _ _ _ _).mono (by omega)
theorem clip_walk (T : GT R D) (v : Int)
    (hq : GD Tryz.prog main R D Stop n d (G (b₀.at (a₀.put ((ops₀[i₀]?).bind (·.dst)) (.int .i64 (clipI v : Nat))) (.inRegion ops₀ rest₀ :: k₀)) cs₀) w) :
    GD Tryz.prog main R D Stop (n + 30) d (G ((base 15).at ⟨#[.int .i64 v, undef, undef, undef, undef, undef], []⟩ [.code (Tryz.f15.body.getD .skip)]) (b₀.at a₀ (.inRegion ops₀ (i₀ :: rest₀) :: k₀) :: cs₀)) w := by
  simp only [Tryz.f15, Option.getD_some]
  with_reducible refine gd_c T (G_running _ _) (fun _ => stepG_seq) ?_
  ((with_reducible refine gd_c T (G_running _ _) (fun _ => stepG_region) ?_); simp only [List.size_toArray, List.length_cons, List.length_nil, Nat.reduceAdd, Nat.zero_add, List.range, List.range.loop])
  (co_applyP gd_val T rfl rfl (by k_ne) ?_ ?_ ?_; (focus (intro _ K hK; go_simp; (try w_num); exact hK)); (focus (intro _; simp [go_sem, *]; done)); (try walk_nrm))
  with_reducible refine gd_c T (G_running _ _) (fun _ => stepG_region_end) ?_
  with_reducible refine gd_c T (G_running _ _) (fun _ => stepG_seq) ?_
  ((with_reducible refine gd_c T (G_running _ _) (fun _ => stepG_region) ?_); simp only [List.size_toArray, List.length_cons, List.length_nil, Nat.reduceAdd, Nat.zero_add, List.range, List.range.loop])
  (co_applyP gd_val T rfl rfl (by k_ne) ?_ ?_ ?_; (focus (intro _ K hK; go_simp; (try w_num); exact hK)); (focus (intro _; simp [go_sem, *]; done)); (try walk_nrm))
  (co_applyP gd_val T rfl rfl (by k_ne) ?_ ?_ ?_; (focus (intro _ K hK; go_simp; (try w_num); exact hK)); (focus (intro _; simp [go_sem, *]; done)); (try walk_nrm))
  (co_applyP gd_val T rfl rfl (by k_ne) ?_ ?_ ?_; (focus (intro _ K hK; go_simp; (try w_num); exact hK)); (focus (intro _; simp [go_sem, *]; done)); (try walk_nrm))
  (co_applyP gd_val T rfl rfl (by k_ne) ?_ ?_ ?_; (focus (intro _ K hK; go_simp; (try w_num); exact hK)); (focus (intro _; simp [go_sem, *]; done)); (try walk_nrm))
  with_reducible refine gd_c T (G_running _ _) (fun _ => stepG_region_end) ?_
  with_reducible refine gd_c T (G_running _ _) (fun _ => stepG_ret') ?_
  (refine gd_leave1 T rfl rfl Tryz.func15 rfl ?_; (try walk_nrm))
  rw [clipI_cast] at hq
  exact hq.mono (by omega)
set_option maxHeartbeats 4000000 in
theorem shard_walk (T : GT R D) (s : ByteArray) (v : Int) (hs : s.size ≤ 140737488355328)
    (hq : GD Tryz.prog main R D Stop n d (G (b₀.at (a₀.put ((ops₀[i₀]?).bind (·.dst)) (.int .i64 (shardN s v : Nat))) (.inRegion ops₀ rest₀ :: k₀)) cs₀) w) :
    GD Tryz.prog main R D Stop (n + 200 + 60 * s.size) d (G ((base 11).at ⟨#[.string s, .int .i64 v, undef, undef, undef, undef, undef, undef, undef, undef, undef, undef], []⟩ [.code (Tryz.f11.body.getD .skip)]) (b₀.at a₀ (.inRegion ops₀ (i₀ :: rest₀) :: k₀) :: cs₀)) w := by
  rw [show n + 200 + 60 * s.size = ((n + 60) + 60 + 60 * s.size) + 80 by omega]
  simp only [Tryz.f11, Option.getD_some]
  with_reducible refine gd_c T (G_running _ _) (fun _ => stepG_seq) ?_
  ((with_reducible refine gd_c T (G_running _ _) (fun _ => stepG_region) ?_); simp only [List.size_toArray, List.length_cons, List.length_nil, Nat.reduceAdd, Nat.zero_add, List.range, List.range.loop])
  (co_applyP gd_val T rfl rfl (by k_ne) ?_ ?_ ?_; (focus (intro _ K hK; go_simp; (try w_num); exact hK)); (focus (intro _; simp [go_sem, *]; done)); (try walk_nrm))
  with_reducible refine gd_c T (G_running _ _) (fun _ => stepG_region_end) ?_
  with_reducible refine gd_c T (G_running _ _) (fun _ => stepG_seq) ?_
  ((with_reducible refine gd_c T (G_running _ _) (fun _ => stepG_region) ?_); simp only [List.size_toArray, List.length_cons, List.length_nil, Nat.reduceAdd, Nat.zero_add, List.range, List.range.loop])
  (co_applyP gd_val T rfl rfl (by k_ne) ?_ ?_ ?_; (focus (intro _ K hK; go_simp; (try w_num); exact hK)); (focus (intro _; simp [go_sem, *]; done)); (try walk_nrm))
  (refine gd_call T rfl rfl (by k_ne) rfl Tryz.func13 cn13 rfl ?_; walk_nrmf Tryz.f13)
  refine GD.mono (n := (n + 60) + 60 + 60 * s.size) (sum_walk (n := n + 60) T s hs ?_) (by omega)
  walk_nrm
  (co_applyP gd_val T rfl rfl (by k_ne) ?_ ?_ ?_; (focus (intro _ K hK; go_simp; (try w_num); exact hK)); (focus (intro _; simp [go_sem, *]; done)); (try walk_nrm))
  (refine gd_call T rfl rfl (by k_ne) rfl Tryz.func15 cn15 rfl ?_; walk_nrmf Tryz.f15)
  refine GD.mono (n := (n + 20) + 30) (clip_walk (n := n + 20) T v ?_) (by omega)
  have hb := clipI_bounds v
  walk_nrm
  (co_applyP gd_val T rfl rfl (by k_ne) ?_ ?_ ?_; (focus (intro _ K hK; go_simp; (try w_num); exact hK)); (focus (intro _; simp [go_sem, *]; done)); (try walk_nrm))
  have hh : hsum s < 18446744073709551616 := hsumL_lt _
  have hw1 : ((clipI v : Nat) : Int) % 18446744073709551616 = ((clipI v : Nat) : Int) := by omega
  have hc1 : ¬ (((clipI v : Nat) : Int) = 0) := by omega
  have HS : ((hsum s : Nat) : Int) % ((clipI v : Nat) : Int) = ((shardN s v : Nat) : Int) := by unfold shardN; simp
  have h1 := shardN_lt s v
  have hc2 : ¬ (clipI v = 0) := by omega
  have HT : ((hsum s : Nat) : Int).tmod ((clipI v : Nat) : Int) = ((shardN s v : Nat) : Int) := by rw [Int.tmod_eq_emod_of_nonneg (by omega), HS]
  simp only [hw1]
  (co_applyP gd_val T rfl rfl (by k_ne) ?_ ?_ ?_; (focus (intro _ K hK; go_simp; exact hK)); (focus (intro _; simp [go_sem, *]; trace_state; done)); (try walk_nrm))
  (co_applyP gd_val T rfl rfl (by k_ne) ?_ ?_ ?_; (focus (intro _ K hK; go_simp; (try w_num); exact hK)); (focus (intro _; simp [go_sem, *]; done)); (try walk_nrm))
  (co_applyP gd_val T rfl rfl (by k_ne) ?_ ?_ ?_; (focus (intro _ K hK; go_simp; (try w_num); exact hK)); (focus (intro _; simp [go_sem, *]; done)); (try walk_nrm))
  with_reducible refine gd_c T (G_running _ _) (fun _ => stepG_region_end) ?_
  with_reducible refine gd_c T (G_running _ _) (fun _ => stepG_ret') ?_
  (refine gd_leave1 T rfl rfl Tryz.func11 rfl ?_; (try walk_nrm))
  have e : IntKind.i64.wrap ((shardN s v : Nat) : Int) = ((shardN s v : Nat) : Int) := by rw [IntKind.wrap_i64]; omega
  rw [e]
  exact hq.mono (by omega)
end
end Go.Proofs.YtacimedkchjfnaaGreat
end

section
/-! A region that asks the tape for its order, calls allowed. -/
namespace Go.Proofs.YtacimedkchjfnaaGreat
set_option linter.unusedSimpArgs false
set_option linter.unusedVariables false
open Go.Conc
theorem fol : Tryz.prog.follows .mixedOrders = true := by kernel_rfl
section
variable {P : Program} {main : Bool} {R : World → World → Prop} {D : Nat → World → World → Array Event → Prop} {Stop : Nat → Goroutine → World → Prop} {n₀ c d : Nat} {b : Frame} {k : List Item} {cs : List Frame} {ops : Array Oper}
theorem ready_set {md : Region.Mode} {listed : Array Bool} {i : Nat} (h : i ∈ Region.ready md ops listed) : (listed.setIfInBounds i true).toList.count false + 1 = listed.toList.count false := by
  obtain ⟨h, -⟩ := mem_ready.1 h
  obtain ⟨l⟩ := listed
  have hi : i < l.length := by
    rcases Nat.lt_or_ge i l.length with h' | h'
    · exact h'
    · simp [Array.getD, h', Nat.not_lt.2 h'] at h
  have h' : l[i] = false := by simpa [Array.getD, hi] using h
  have hp : 0 < l.count false := List.count_pos_iff.2 (h' ▸ List.getElem_mem hi)
  simp only [Array.toList_setIfInBounds, List.count_set hi, h']
  simp
  omega
theorem ready_none {md : Region.Mode} {listed : Array Bool} (h : listed.toList.count false = 0) : Region.ready md ops listed = [] := by
  cases hr : Region.ready md ops listed with
  | nil => rfl
  | cons i rs =>
    have := ready_set (md := md) (ops := ops) (listed := listed) (i := i) (by rw [hr]; exact List.mem_cons_self)
    omega
theorem gd_order (Inv : Array Bool → Act → World → Prop)
    (h1 : ∀ listed a w i, Inv listed a w → i ∈ Region.ready .any ops listed → ∀ rest n, (∀ a' w', Inv (listed.setIfInBounds i true) a' w' → GD P main R D Stop n d (G (b.at a' (.inRegion ops rest :: k)) cs) w') → GD P main R D Stop (n + c) d (G (b.at a (.inRegion ops (i :: rest) :: k)) cs) w)
    (h2 : ∀ listed a w, Inv listed a w → Region.ready .any ops listed = [] → GD P main R D Stop n₀ d (G (b.at a (.inRegion ops [] :: k)) cs) w) :
    ∀ (fuel t : Nat) (listed : Array Bool) (a : Act) (w : World), listed.toList.count false ≤ fuel → Inv listed a w →
      GD P main R D Stop (n₀ + c * fuel) d (G (b.at a (.inRegion ops (Region.linearise.go .any ops fuel t listed []) :: k)) cs) w := by
  intro fuel
  induction fuel with
  | zero => intro t listed a w hf h; simpa [Region.linearise.go] using h2 _ _ _ h (ready_none (by omega))
  | succ fuel ih =>
    intro t listed a w hf h
    simp only [Region.linearise.go]
    change GD P main R D Stop (n₀ + c * (fuel + 1)) d (G (b.at a (.inRegion ops (match (Region.ready .any ops listed)[t % (Region.ready .any ops listed).length]? with
      | some i => Region.linearise.go .any ops fuel (t / (Region.ready .any ops listed).length) (listed.setIfInBounds i true) [i]
      | none => [].reverse) :: k)) cs) w
    cases hi : (Region.ready .any ops listed)[t % (Region.ready .any ops listed).length]? with
    | none =>
      have hnil : Region.ready .any ops listed = [] := by
        cases hr : Region.ready .any ops listed with
        | nil => rfl
        | cons x xs =>
          rw [hr] at hi
          have hlt : t % (x :: xs).length < (x :: xs).length := Nat.mod_lt _ (by simp)
          simp at hi
          simp at hlt
          omega
      exact (h2 _ _ _ h hnil).mono (by omega)
    | some i =>
      have hm := List.mem_of_getElem? hi
      simp only []
      rw [linearise_go_acc, List.reverse_singleton, List.singleton_append, show n₀ + c * (fuel + 1) = (n₀ + c * fuel) + c by rw [Nat.mul_succ]; omega]
      exact h1 _ _ _ _ h hm _ _ fun a' w' h' => ih _ _ _ _ (by have := ready_set hm; omega) h'
theorem gd_draw (Inv : Array Bool → Act → World → Prop) {a : Act} {w : World} {id : Nat} (hm : P.follows .mixedOrders = true) (hdr : ∀ w : World, D d w { w with drawn := w.drawn + 1 } #[])
    (h0 : ∀ w₁, R w w₁ → Inv (Array.replicate ops.size false) a { w₁ with drawn := w₁.drawn + 1 })
    (h1 : ∀ listed a w i, Inv listed a w → i ∈ Region.ready .any ops listed → ∀ rest n, (∀ a' w', Inv (listed.setIfInBounds i true) a' w' → GD P main R D Stop n d (G (b.at a' (.inRegion ops rest :: k)) cs) w') → GD P main R D Stop (n + c) d (G (b.at a (.inRegion ops (i :: rest) :: k)) cs) w)
    (h2 : ∀ listed a w, Inv listed a w → Region.ready .any ops listed = [] → GD P main R D Stop n₀ d (G (b.at a (.inRegion ops [] :: k)) cs) w) :
    GD P main R D Stop (n₀ + c * ops.size + 1) d (G (b.at a (.code (.region id ops true) :: k)) cs) w :=
  .step rfl fun w₁ h₁ => by
    rw [stepG_region_draw]
    refine ⟨hdr w₁, ?_⟩
    simp only [Region.schedule, hm, Bool.true_or, if_true]
    exact gd_order Inv h1 h2 ops.size _ _ _ _ (by simp) (h0 w₁ h₁)
end
end Go.Proofs.YtacimedkchjfnaaGreat
end

section
/-! A worker: a job. -/
namespace Go.Proofs.YtacimedkchjfnaaGreat
set_option linter.unusedSimpArgs false
set_option linter.unusedVariables false
set_option maxRecDepth 100000
open Go.Conc Go.RowKit Go.Conc.Lib Go.ConcR.Gen
open Go.ConcR (KK wgBlock WgAt stA smA rd wr deafBehind_cons deafBehind_one)
open Go.ConcN (WgLive)
section
variable {x : Ph} {bN bO bJ bE : Nat} {nv : Int}
theorem heap_new (w : World) (o : Obj) : (w.alloc o).heap[w.heap.size]? = some o := by
  show (w.heap.push o)[w.heap.size]? = _
  simp
/-- What a worker holds of the world while it does job q; its block holds 'cs'. -/
structure JW (x : Ph) (b q : Nat) (cs : Array Value) (w : World) : Prop where
  wi : x.WI w
  blk : w.heap[b]? = some (.cells cs 64)
  lo : x.L0 ≤ b
theorem JW.rely {x : Ph} {b q : Nat} {cs : Array Value} {w w₁ : World} (h : JW x b q cs w) (r : x.RK (some b) (some q) w w₁) : JW x b q cs w₁ := ⟨r.wi h.wi, (r.own b rfl).trans h.blk, h.lo⟩
theorem tKq (x : Ph) (q : Nat) : GT (x.RK none (some q)) x.D0 := ⟨Ph.rk_tr, fun d w => ⟨rfl, fun e he => by simp at he⟩⟩
theorem tR (x : Ph) (b q : Nat) : GT (x.RK (some b) (some q)) (x.DR b q) := ⟨Ph.rk_tr, fun d w => ⟨fun _ _ _ => rfl, rfl, fun _ _ => rfl, id, rfl, rfl, rfl, fun e he => by simp at he⟩⟩
@[go_sem] theorem ev_store_string (P : Program) (w : World) (es : Array Event) (a : Addr) (m : Mode) (s : ByteArray) : (store a (.string s) m).events P w es = storedEv P w es a (.string s) m := events_store P w es a _ m rfl
theorem JW.turn (Gx : x.Geo) {b q : Nat} {cs cs' : Array Value} {w w' : World} (h : JW x b q cs w) (hk : ∀ k, k ≠ b → w'.heap[k]? = w.heap[k]?) (hs : w'.heap.size = w.heap.size) (ht : w'.tape = w.tape) (ho : w'.os = w.os) (hp : w'.output = w.output)
    (hb : w'.heap[b]? = some (.cells cs' 64)) : JW x b q cs' w' ∧ ∀ d es, (∀ e ∈ es, x.EvK (some b) (some q) e) → x.DR b q d w w' es := by
  have hC : x.C ≠ b := by have := Gx.c; have := h.lo; omega
  have hW : x.Wg ≠ b := by have := Gx.wg; have := h.lo; omega
  have hup : Ph.Upd (fun k => k = b) w w' := ⟨fun k _ hn => hk k hn, by omega, ht, ho, hp⟩
  refine ⟨⟨hup.wi h.wi ?_ (Ph.live_of_block h.wi.live (hk _ hW)) (Ph.pay_of_block h.wi.pay (hk _ hC)), hb, h.lo⟩, fun d es he => ⟨fun k hn _ => hk k hn, hs, fun i _ => ?_, fun hh => Ph.pay_of_block hh (hk _ hC), ht, ho, hp, he⟩⟩
  · rintro k rfl hf
    have := hf.1
    have := h.lo
    omega
  · simp only [World.cell?, Ph.oc, hk _ hC]
theorem JW.same {b q : Nat} {w : World} {d : Nat} {es : Array Event} (he : ∀ e ∈ es, x.EvK (some b) (some q) e) : x.DR b q d w w es := ⟨fun _ _ _ => rfl, rfl, fun _ _ => rfl, id, rfl, rfl, rfl, he⟩
theorem JW.put (Gx : x.Geo) {b q : Nat} {cs : Array Value} {w : World} (h : JW x b q cs w) (hq : q < x.N) (v : Value) : JW x b q cs (w.setCell (x.oc q) v) ∧ (w.setCell (x.oc q) v).cell? (x.oc q) = some v ∧ ∀ d es, (∀ e ∈ es, x.EvK (some b) (some q) e) → x.DR b q d w (w.setCell (x.oc q) v) es := by
  have hC : b ≠ x.C := by have := Gx.c; have := h.lo; omega
  have hk : ∀ k, k ≠ x.C → (w.setCell (x.oc q) v).heap[k]? = w.heap[k]? := fun k hk => heap_setCell_other _ _ _ _ hk
  have hs : (w.setCell (x.oc q) v).heap.size = w.heap.size := by simp [World.setCell]
  have hup : Ph.Upd (fun k => k = x.C) w (w.setCell (x.oc q) v) := Ph.upd_setCell w (x.oc q) v
  obtain ⟨ps, hb, hN⟩ := h.wi.pay
  have hb' := heap_setCell_same w x.C q ps x.ety v hb
  have hpay : x.Pay (w.setCell (x.oc q) v) := ⟨_, hb', by simpa using hN⟩
  refine ⟨⟨hup.wi h.wi (fun b e hf => hf.2.2.1 e) (Ph.live_of_block h.wi.live (hk _ Gx.wgc)) hpay, (hk _ hC).trans h.blk, h.lo⟩, ?_, fun d es he => ⟨fun k _ hn => hk k hn, hs, fun i hi => ?_, fun _ => hpay, rfl, rfl, rfl, he⟩⟩
  · show (w.setCell ⟨x.C, q, none⟩ v).cell? ⟨x.C, q, none⟩ = _
    simp [World.cell?, hb', hN, hq]
  · show (w.setCell ⟨x.C, q, none⟩ v).cell? ⟨x.C, i, none⟩ = w.cell? ⟨x.C, i, none⟩
    simp [World.cell?, hb', hb, Array.getElem?_setIfInBounds_ne (Ne.symm hi)]
theorem setL {L : Array Bool} {i j : Nat} (h : (L.setIfInBounds i true)[j]? = some true) (hn : i ≠ j) : L[j]? = some true := by
  rwa [Array.getElem?_setIfInBounds_ne hn] at h
theorem getL {L : Array Bool} {j : Nat} (h : L.getD j false = true) : L[j]? = some true := by
  rcases Nat.lt_or_ge j L.size with h' | h'
  · simpa [Array.getD, h'] using h
  · simp [Array.getD, Nat.not_lt.2 h'] at h
/-- In the drawn region. -/
structure IV (x : Ph) (bN bO bJ bE : Nat) (nv : Int) (b q : Nat) (key : ByteArray) (v6 v7 v8 v9 v10 v11 v12 : Value) (L : Array Bool) (a : Act) (w : World) : Prop where
  sz : L.size = 9
  jw : JW x b q #[.int .i64 q, .string key] w
  ex : ∃ v13 v14 v15 v16 v17 v18 v19 v20 : Value, a = ⟨#[.pointer (some ⟨x.Wg, 0, none⟩), .pointer (some ⟨bJ, 0, none⟩), .pointer (some ⟨bN, 0, none⟩), .pointer (some ⟨bO, 0, none⟩), .pointer (some ⟨bE, 0, none⟩), .pointer (some ⟨b, 0, none⟩), v6, v7, v8, v9, v10, v11, v12, v13, v14, v15, v16, v17, v18, v19, v20], ds24 x⟩ ∧
    (L[0]? = some true → v13 = .slice (some ⟨x.C, 0, none⟩) x.N x.N) ∧ (L[1]? = some true → v14 = .pointer (some ⟨b, 0, none⟩)) ∧ (L[2]? = some true → v15 = .int .i64 q) ∧ (L[3]? = some true → v16 = .pointer (some ⟨b, 1, none⟩)) ∧
    (L[4]? = some true → v17 = .string key) ∧ (L[5]? = some true → v18 = .int .i64 nv) ∧ (L[6]? = some true → v19 = .int .i64 (shardN key nv : Nat)) ∧ (L[7]? = some true → v20 = .pointer (some ⟨x.C, q, none⟩)) ∧ (L[8]? = some true → w.cell? (x.oc q) = some (x.val q))
noncomputable def ops5 : Array Oper := match K24 with
  | .block _ (.cond _ (.seq _ (.region _ ops _)) _) => ops
  | _ => #[]
theorem und37 : Tryz.prog.underlying 37 = some (.slice (Tryz.prog.elem 37)) := by kernel_rfl
set_option maxHeartbeats 8000000 in
theorem op5 (B : BX x bN bO bJ bE nv) (Gx : x.Geo) {b q : Nat} {key : ByteArray} (hkey : key.size ≤ 140737488355328) (hq : q < x.N) (hN : x.N ≤ 140737488355328) (hval : x.val q = .int .i64 (shardN key nv : Nat)) {v6 v7 v8 v9 v10 v11 v12 : Value}
    {Stop : Nat → Goroutine → World → Prop} {k : List Item} {cs : List Frame} {rest : List Nat} {n i : Nat} {L : Array Bool} {a : Act} {w : World} (h : IV x bN bO bJ bE nv b q key v6 v7 v8 v9 v10 v11 v12 L a w) (hi : i ∈ Region.ready .any ops5 L)
    (hnext : ∀ a' w', IV x bN bO bJ bE nv b q key v6 v7 v8 v9 v10 v11 v12 (L.setIfInBounds i true) a' w' → GD Tryz.prog false (x.RK (some b) (some q)) (x.DR b q) Stop n 0 (G ((baseD 24).at a' (.inRegion ops5 rest :: k)) cs) w') :
    GD Tryz.prog false (x.RK (some b) (some q)) (x.DR b q) Stop (n + (300 + 60 * key.size)) 0 (G ((baseD 24).at a (.inRegion ops5 (i :: rest) :: k)) cs) w := by
  have T := tR x b q
  obtain ⟨hu, o, ho, hall⟩ := mem_ready.1 hi
  obtain ⟨sz, hJ, v13, v14, v15, v16, v17, v18, v19, v20, rfl, c0, c1, c2, c3, c4, c5, c6, c7, c8⟩ := h
  clear hi
  simp only [ops5, K24, B24, Tryz.f24, Option.getD_some] at ho hnext ⊢
  have hi : i < 9 := by
    have := (Array.getElem?_eq_some_iff.1 ho).1
    simpa using this
  obtain rfl | rfl | rfl | rfl | rfl | rfl | rfl | rfl | rfl : i = 0 ∨ i = 1 ∨ i = 2 ∨ i = 3 ∨ i = 4 ∨ i = 5 ∨ i = 6 ∨ i = 7 ∨ i = 8 := by omega
  all_goals (simp only [List.getElem?_toArray, List.getElem?_cons_succ, List.getElem?_cons_zero, Option.some.injEq] at ho; subst ho; simp only [Region.binds, List.mem_toArray, List.forall_mem_cons, List.mem_cons, forall_eq_or_imp, List.not_mem_nil, false_imp_iff, forall_const, implies_true, and_true, forall_eq] at hall)
  · refine GD.mono (n := n + 1) ?_ (by omega)
    refine gd_op rfl rfl (by k_ne) (fun w₁ h₁ K hK => ?_)
    have hJ := hJ.rely h₁
    have h8 : L[8]? = some true → w₁.cell? (x.oc q) = some (x.val q) := fun h => (h₁.cell q rfl).trans (c8 h)
    have hc := cell_fix hJ.wi B.o B.co
    go_simp
    refine hK _ _ (JW.same (fun e he => ?_)) (deafBehind_plain (fun e he => ?_)) ?_
    · have hm := mem_listed he
      simp [go_sem, hc] at hm
      subst hm
      exact evK_read B.o 0
    · have hm := mem_listed he
      simp [go_sem, hc] at hm
      subst hm
      exact ⟨_, _, _, rfl⟩
    · exact (hnext _ _ ⟨by simpa using sz, hJ, _, _, _, _, _, _, _, _, rfl, fun _ => rfl, fun h => c1 (setL h (by decide)), fun h => c2 (setL h (by decide)), fun h => c3 (setL h (by decide)), fun h => c4 (setL h (by decide)), fun h => c5 (setL h (by decide)), fun h => c6 (setL h (by decide)), fun h => c7 (setL h (by decide)), fun h => h8 (setL h (by decide))⟩).mono (by omega)

  · 
    refine GD.mono (n := n + 1) ?_ (by omega)
    have h8 := c8
    (co_applyP gd_val T rfl rfl (by k_ne) ?_ ?_ ?_; (focus (intro _ K hK; go_simp; (try w_num); exact hK)); (focus (intro _; simp [go_sem, *]; done)); (try walk_nrm))
    exact (hnext _ _ ⟨by simpa using sz, hJ, _, _, _, _, _, _, _, _, rfl, fun h => c0 (setL h (by decide)), fun _ => rfl, fun h => c2 (setL h (by decide)), fun h => c3 (setL h (by decide)), fun h => c4 (setL h (by decide)), fun h => c5 (setL h (by decide)), fun h => c6 (setL h (by decide)), fun h => c7 (setL h (by decide)), fun h => h8 (setL h (by decide))⟩).mono (by omega)

  · obtain rfl := c1 (getL hall)
    refine GD.mono (n := n + 1) ?_ (by omega)
    refine gd_op rfl rfl (by k_ne) (fun w₁ h₁ K hK => ?_)
    have hJ := hJ.rely h₁
    have h8 : L[8]? = some true → w₁.cell? (x.oc q) = some (x.val q) := fun h => (h₁.cell q rfl).trans (c8 h)
    have hc := (show w₁.cell? ⟨b, 0, none⟩ = some (.int .i64 q) by simp [World.cell?, hJ.blk])
    go_simp
    refine hK _ _ (JW.same (fun e he => ?_)) (deafBehind_plain (fun e he => ?_)) ?_
    · have hm := mem_listed he
      simp [go_sem, hc] at hm
      subst hm
      exact ⟨_, _, rfl, .inr (.inl rfl)⟩
    · have hm := mem_listed he
      simp [go_sem, hc] at hm
      subst hm
      exact ⟨_, _, _, rfl⟩
    · exact (hnext _ _ ⟨by simpa using sz, hJ, _, _, _, _, _, _, _, _, rfl, fun h => c0 (setL h (by decide)), fun h => c1 (setL h (by decide)), fun _ => rfl, fun h => c3 (setL h (by decide)), fun h => c4 (setL h (by decide)), fun h => c5 (setL h (by decide)), fun h => c6 (setL h (by decide)), fun h => c7 (setL h (by decide)), fun h => h8 (setL h (by decide))⟩).mono (by omega)
  · 
    refine GD.mono (n := n + 1) ?_ (by omega)
    have h8 := c8
    (co_applyP gd_val T rfl rfl (by k_ne) ?_ ?_ ?_; (focus (intro _ K hK; go_simp; (try w_num); exact hK)); (focus (intro _; simp [go_sem, *]; done)); (try walk_nrm))
    exact (hnext _ _ ⟨by simpa using sz, hJ, _, _, _, _, _, _, _, _, rfl, fun h => c0 (setL h (by decide)), fun h => c1 (setL h (by decide)), fun h => c2 (setL h (by decide)), fun _ => rfl, fun h => c4 (setL h (by decide)), fun h => c5 (setL h (by decide)), fun h => c6 (setL h (by decide)), fun h => c7 (setL h (by decide)), fun h => h8 (setL h (by decide))⟩).mono (by omega)

  · obtain rfl := c3 (getL hall)
    refine GD.mono (n := n + 1) ?_ (by omega)
    refine gd_op rfl rfl (by k_ne) (fun w₁ h₁ K hK => ?_)
    have hJ := hJ.rely h₁
    have h8 : L[8]? = some true → w₁.cell? (x.oc q) = some (x.val q) := fun h => (h₁.cell q rfl).trans (c8 h)
    have hc := (show w₁.cell? ⟨b, 1, none⟩ = some (.string key) by simp [World.cell?, hJ.blk])
    go_simp
    refine hK _ _ (JW.same (fun e he => ?_)) (deafBehind_plain (fun e he => ?_)) ?_
    · have hm := mem_listed he
      simp [go_sem, hc] at hm
      subst hm
      exact ⟨_, _, rfl, .inr (.inl rfl)⟩
    · have hm := mem_listed he
      simp [go_sem, hc] at hm
      subst hm
      exact ⟨_, _, _, rfl⟩
    · exact (hnext _ _ ⟨by simpa using sz, hJ, _, _, _, _, _, _, _, _, rfl, fun h => c0 (setL h (by decide)), fun h => c1 (setL h (by decide)), fun h => c2 (setL h (by decide)), fun h => c3 (setL h (by decide)), fun _ => rfl, fun h => c5 (setL h (by decide)), fun h => c6 (setL h (by decide)), fun h => c7 (setL h (by decide)), fun h => h8 (setL h (by decide))⟩).mono (by omega)
  · refine GD.mono (n := n + 1) ?_ (by omega)
    refine gd_op rfl rfl (by k_ne) (fun w₁ h₁ K hK => ?_)
    have hJ := hJ.rely h₁
    have h8 : L[8]? = some true → w₁.cell? (x.oc q) = some (x.val q) := fun h => (h₁.cell q rfl).trans (c8 h)
    have hc := cell_fix hJ.wi B.n B.cn
    go_simp
    refine hK _ _ (JW.same (fun e he => ?_)) (deafBehind_plain (fun e he => ?_)) ?_
    · have hm := mem_listed he
      simp [go_sem, hc] at hm
      subst hm
      exact evK_read B.n 0
    · have hm := mem_listed he
      simp [go_sem, hc] at hm
      subst hm
      exact ⟨_, _, _, rfl⟩
    · exact (hnext _ _ ⟨by simpa using sz, hJ, _, _, _, _, _, _, _, _, rfl, fun h => c0 (setL h (by decide)), fun h => c1 (setL h (by decide)), fun h => c2 (setL h (by decide)), fun h => c3 (setL h (by decide)), fun h => c4 (setL h (by decide)), fun _ => rfl, fun h => c6 (setL h (by decide)), fun h => c7 (setL h (by decide)), fun h => h8 (setL h (by decide))⟩).mono (by omega)

  · obtain rfl := c4 (getL hall.1)
    obtain rfl := c5 (getL hall.2)
    have h8 := c8
    refine GD.mono (n := (n + 200 + 60 * key.size) + 1) ?_ (by omega)
    (refine gd_call T rfl rfl (by k_ne) rfl Tryz.func11 cn11 rfl ?_; walk_nrmf Tryz.f11)
    refine shard_walk T key nv hkey ?_
    walk_nrm
    exact (hnext _ _ ⟨by simpa using sz, hJ, _, _, _, _, _, _, _, _, rfl, fun h => c0 (setL h (by decide)), fun h => c1 (setL h (by decide)), fun h => c2 (setL h (by decide)), fun h => c3 (setL h (by decide)), fun h => c4 (setL h (by decide)), fun h => c5 (setL h (by decide)), fun _ => rfl, fun h => c7 (setL h (by decide)), fun h => h8 (setL h (by decide))⟩)
  · obtain rfl := c0 (getL hall.1)
    obtain rfl := c2 (getL hall.2.1)
    refine GD.mono (n := n + 1) ?_ (by omega)
    have h8 := c8
    have hq0 : (0 : Int) ≤ (q : Int) ∧ (q : Int) < (x.N : Int) := by omega
    (co_applyP gd_val T rfl rfl (by k_ne) ?_ ?_ ?_; (focus (intro _ K hK; go_simp; exact hK)); (focus (intro _; simp [go_sem, und37, hq0]; done)); (try walk_nrm))
    exact (hnext _ _ ⟨by simpa using sz, hJ, _, _, _, _, _, _, _, _, rfl, fun h => c0 (setL h (by decide)), fun h => c1 (setL h (by decide)), fun h => c2 (setL h (by decide)), fun h => c3 (setL h (by decide)), fun h => c4 (setL h (by decide)), fun h => c5 (setL h (by decide)), fun h => c6 (setL h (by decide)), fun _ => rfl, fun h => h8 (setL h (by decide))⟩).mono (by omega)
  · obtain rfl := c7 (getL hall.1)
    obtain rfl := c6 (getL hall.2.1)
    refine GD.mono (n := n + 1) ?_ (by omega)
    refine gd_op rfl rfl (by k_ne) (fun w₁ h₁ K hK => ?_)
    have hJ := hJ.rely h₁
    obtain ⟨cs, hb, hN⟩ := hJ.wi.pay
    have hc : w₁.cell? ⟨x.C, q, none⟩ = some cs[q] := by simp [World.cell?, hb, hN, hq]
    have hf : w₁.frozen? ⟨x.C, q, none⟩ = false := by simp [World.frozen?, hb]
    go_simp
    have hp := hJ.put Gx hq (.int .i64 (shardN key nv : Nat))
    refine hK _ _ (hp.2.2 _ _ (fun e he => ?_)) (deafBehind_plain (fun e he => ?_)) ?_
    · have hm := mem_listed he
      simp [go_sem, hc, hf] at hm
      subst hm
      exact ⟨_, _, rfl, .inr (.inr ⟨q, rfl, rfl⟩)⟩
    · have hm := mem_listed he
      simp [go_sem, hc, hf] at hm
      subst hm
      exact ⟨_, _, _, rfl⟩
    · exact (hnext _ _ ⟨by simpa using sz, hp.1, _, _, _, _, _, _, _, _, rfl, fun h => c0 (setL h (by decide)), fun h => c1 (setL h (by decide)), fun h => c2 (setL h (by decide)), fun h => c3 (setL h (by decide)), fun h => c4 (setL h (by decide)), fun h => c5 (setL h (by decide)), fun h => c6 (setL h (by decide)), fun h => c7 (setL h (by decide)), fun _ => hp.2.1.trans (congrArg some hval.symm)⟩).mono (by omega)
theorem noL {n j : Nat} (h : (Array.replicate n false)[j]? = some true) : False := by
  rw [Array.getElem?_replicate] at h
  split at h <;> simp at h
theorem evK_up {o q : Option Nat} {e : Event} (h : x.EvK none none e) : x.EvK o q e := by
  obtain ⟨a, wr, he, h⟩ := h
  refine ⟨a, wr, he, ?_⟩
  rcases h with h | h | ⟨i, h, _⟩
  · exact .inl h
  · cases h
  · cases h
theorem all5 {L : Array Bool} (hs : L.size = 9) (hr : Region.ready .any ops5 L = []) : L[8]? = some true := by
  have step : ∀ (j : Nat) (o : Oper), ops5[j]? = some o → j < 9 → (∀ e ∈ o.after, L.getD e.on false = true) → L.getD j false = true := by
    intro j o ho hj hd
    cases hb : L.getD j true with
    | true =>
      have h' : j < L.size := by omega
      simpa [Array.getD, h'] using hb
    | false =>
      have : j ∈ Region.ready .any ops5 L := mem_ready.2 ⟨hb, o, ho, fun e he _ => hd e he⟩
      rw [hr] at this
      cases this
  simp only [ops5, K24, B24, Tryz.f24, Option.getD_some] at step
  have s0 := step 0 _ rfl (by decide) (by simp)
  have t0 := s0
  simp at t0
  have s1 := step 1 _ rfl (by decide) (by simp)
  have t1 := s1
  simp at t1
  have s3 := step 3 _ rfl (by decide) (by simp)
  have t3 := s3
  simp at t3
  have s5 := step 5 _ rfl (by decide) (by simp)
  have t5 := s5
  simp at t5
  have s2 := step 2 _ rfl (by decide) (by simp [t1])
  have t2 := s2
  simp at t2
  have s4 := step 4 _ rfl (by decide) (by simp [t3])
  have t4 := s4
  simp at t4
  have s6 := step 6 _ rfl (by decide) (by simp [t4, t5])
  have t6 := s6
  simp at t6
  have s7 := step 7 _ rfl (by decide) (by simp [t0, t1, t2, t3, t4, t5, t6])
  have t7 := s7
  simp at t7
  have s8 := step 8 _ rfl (by decide) (by simp [t0, t1, t2, t3, t4, t5, t6, t7])
  have t8 := s8
  simp at t8
  exact getL s8
set_option maxHeartbeats 4000000 in
theorem job24 {T₀ : Array Value} (hT : T24 x bN bO bJ bE T₀) (B : BX x bN bO bJ bE nv) (Gx : x.Geo) {q : Nat} {key : ByteArray} (hq : q < x.N) (hjob : x.job q = .agg #[.int .i64 q, .string key]) (hkey : key.size ≤ 140737488355328) (hN : x.N ≤ 140737488355328) (hval : x.val q = .int .i64 (shardN key nv : Nat)) (w : World) (hwi : x.WI w) :
    ∃ m, GD Tryz.prog false (x.RK none (some q)) x.D0 (x.AtA Tryz.prog (AnchW x bN bO bJ bE) q) m 0 ((G ((baseD 24).at ⟨T₀, ds24 x⟩ [.inRegion ops24 [0, 1, 2, 3], .code K24, .inBlock 1, .inLoop B24, .inBlock 0]) [bot]).finishComm Tryz.prog x.cs .select 0 (x.job q) true) w := by
  obtain ⟨v0, v1, v2, v3, v4, v5, v6, v7, v8, v9, v10, v11, v12, v13, v14, v15, v16, v17, v18, v19, v20, rfl⟩ := arr21 T₀ hT.size
  obtain ⟨_, e0, e1, e2, e3, e4⟩ := id hT
  simp only [List.getElem?_toArray, List.getElem?_cons_succ, List.getElem?_cons_zero, Option.some.injEq] at e0 e1 e2 e3 e4
  subst e0 e1 e2 e3 e4
  have hf := finish24 (x := x) #[.pointer (some ⟨x.Wg, 0, none⟩), .pointer (some ⟨bJ, 0, none⟩), .pointer (some ⟨bN, 0, none⟩), .pointer (some ⟨bO, 0, none⟩), .pointer (some ⟨bE, 0, none⟩), v5, v6, v7, v8, v9, v10, v11, v12, v13, v14, v15, v16, v17, v18, v19, v20] (x.job q) 0 true (ds24 x)
  rw [show ((0 : Nat) : Int) = 0 from rfl] at hf
  rw [hf]
  have hc := commRes x.J x.E x.zj x.ze (x.job q) 0 true (.inl rfl)
  rw [show ((0 : Nat) : Int) = 0 from rfl] at hc
  rw [Ph.cs, hc, hjob]
  have T := tKq x q
  refine ⟨200, ?_⟩
  simp only [ops24, K24, B24, Tryz.f24, Option.getD_some]
  walk_nrm
  (co_applyP gd_val T rfl rfl (by k_ne) ?_ ?_ ?_; (focus (intro _ K hK; go_simp; (try w_num); exact hK)); (focus (intro _; simp [go_sem, *]; done)); (try walk_nrm))
  (co_applyP gd_val T rfl rfl (by k_ne) ?_ ?_ ?_; (focus (intro _ K hK; go_simp; (try w_num); exact hK)); (focus (intro _; simp [go_sem, *]; done)); (try walk_nrm))
  (co_applyP gd_val T rfl rfl (by k_ne) ?_ ?_ ?_; (focus (intro _ K hK; go_simp; (try w_num); exact hK)); (focus (intro _; simp [go_sem, *]; done)); (try walk_nrm))
  with_reducible refine gd_c T (G_running _ _) (fun _ => stepG_region_end) ?_
  with_reducible refine gd_c T (G_running _ _) (fun _ => stepG_block) ?_
  (refine gd_c T rfl (fun _ => stepG_cond (t := true) rfl) ?_; simp only [if_true, if_false, Bool.false_eq_true, ↓reduceIte])
  with_reducible refine gd_c T (G_running _ _) (fun _ => stepG_seq) ?_
  ((with_reducible refine gd_c T (G_running _ _) (fun _ => stepG_region) ?_); simp only [List.size_toArray, List.length_cons, List.length_nil, Nat.reduceAdd, Nat.zero_add, List.range, List.range.loop])
  (co_applyP gd_val T rfl rfl (by k_ne) ?_ ?_ ?_; (focus (intro _ K hK; go_simp; (try w_num); exact hK)); (focus (intro _; simp [go_sem, *]; done)); (try walk_nrm))
  refine GD.stop (fun w₁ h₁ => ⟨rfl, rfl, .cells #[.int .i64 0, .string ByteArray.empty] 64, _, (stepG_value (v := .pointer (some ⟨w₁.heap.size, 0, none⟩)) rfl rfl (by decide) (w' := w₁.alloc (.cells #[.int .i64 0, .string ByteArray.empty] 64)) ?_).trans (by rw [listed_nil (by simp [go_sem])]), (60 + (300 + 60 * key.size) * ops5.size + 1) + 10, ?_⟩)
  · refine run_eq_of (fun K hK => ?_)
    go_simp
    exact hK
  replace hwi := h₁.wi hwi
  clear h₁ T
  have T := tR x w₁.heap.size q
  have hL := hwi.size
  -- what is held of the world
  have hup := Ph.upd_alloc w₁ (.cells #[.int .i64 0, .string ByteArray.empty] 64) (S := fun _ => False)
  have hIw : JW x w₁.heap.size q #[.int .i64 0, .string ByteArray.empty] (w₁.alloc (.cells #[.int .i64 0, .string ByteArray.empty] 64)) := by
    have bk : ∀ b, b < x.L0 → (w₁.alloc (.cells #[.int .i64 0, .string ByteArray.empty] 64)).heap[b]? = w₁.heap[b]? := fun b hb => hup.block b (by omega) (fun e => e)
    refine ⟨hup.wi hwi (fun _ e => e.elim) (Ph.live_of_block hwi.live (bk _ ?_)) (Ph.pay_of_block hwi.pay (bk _ ?_)), ?_, hL⟩
    · exact Gx.wg
    · exact Gx.c
    · exact heap_new w₁ _
  generalize w₁.alloc (.cells #[.int .i64 0, .string ByteArray.empty] 64) = w at hIw ⊢
  generalize w₁.heap.size = b at T hIw ⊢
  clear hup hwi hL
  walk_nrm
  refine gd_op rfl rfl (by k_ne) (fun w₂ h₂ K hK => ?_)
  replace hIw := hIw.rely h₂
  have c0 : w₂.cell? ⟨b, 0, none⟩ = some (.int .i64 0) := by simp [World.cell?, hIw.blk]
  have c1 : w₂.cell? ⟨b, 1, none⟩ = some (.string ByteArray.empty) := by simp [World.cell?, hIw.blk]
  have f0 : w₂.frozen? ⟨b, 0, none⟩ = false := by simp [World.frozen?, hIw.blk]
  have f1 : w₂.frozen? ⟨b, 1, none⟩ = false := by simp [World.frozen?, hIw.blk]
  have hb0 := (heap_setCell_same w₂ b 0 _ 64 (.int .i64 q) hIw.blk).trans rfl
  have g0 : (w₂.setCell ⟨b, 0, none⟩ (.int .i64 q)).cell? ⟨b, 1, none⟩ = some (.string ByteArray.empty) := by simp [World.cell?, hb0]
  have g1 : (w₂.setCell ⟨b, 0, none⟩ (.int .i64 q)).frozen? ⟨b, 1, none⟩ = false := by simp [World.frozen?, hb0]
  go_simp
  have hj := hIw.turn Gx (w' := (w₂.setCell ⟨b, 0, none⟩ (.int .i64 q)).setCell ⟨b, 1, none⟩ (.string key)) (cs' := #[.int .i64 q, .string key])
    (fun k hk => by rw [heap_setCell_other _ _ _ _ hk, heap_setCell_other _ _ _ _ hk]) (by simp [World.setCell]) rfl rfl rfl (by
      rw [heap_setCell_same _ _ _ #[.int .i64 q, .string ByteArray.empty] 64 _ ((heap_setCell_same _ _ _ _ 64 _ hIw.blk).trans rfl)]
      rfl)
  refine hK _ _ (hj.2 _ _ (fun e he => ?_)) (deafBehind_plain (fun e he => ?_)) ?_
  · have hm := mem_listed he
    simp [go_sem, c0, c1, f0, f1, g0, g1] at hm
    rcases hm with rfl | rfl
    · exact ⟨_, _, rfl, .inr (.inl rfl)⟩
    · exact ⟨_, _, rfl, .inr (.inl rfl)⟩
  · have hm := mem_listed he
    simp [go_sem, c0, c1, f0, f1, g0, g1] at hm
    rcases hm with rfl | rfl
    · exact ⟨_, _, _, rfl⟩
    · exact ⟨_, _, _, rfl⟩
  replace hIw := hj.1
  generalize (w₂.setCell ⟨b, 0, none⟩ (.int .i64 q)).setCell ⟨b, 1, none⟩ (.string key) = w₃ at hIw ⊢
  clear hj hK K h₂ c0 c1 f0 f1 g0 g1 hb0
  with_reducible refine gd_c T (G_running _ _) (fun _ => stepG_region_end) ?_
  refine GD.mono (n := 60 + (300 + 60 * key.size) * ops5.size + 1) ?_ (by omega)
  refine gd_draw (ops := ops5) (IV x bN bO bJ bE nv b q key v6 v7 (.tuple #[goInt 0, .bool true, .agg #[.int .i64 q, .string key], x.ze]) (.int .i64 0) (.bool true) (.bool false) (.agg #[.int .i64 q, .string key])) fol (fun w => ⟨fun _ _ _ => rfl, rfl, fun _ _ => rfl, id, rfl, rfl, rfl, fun e he => by simp at he⟩) (fun w₁ h₁ => ?_) (fun L a w i hI hi rest n hn => op5 B Gx hkey hq hN hval hI hi hn) (fun L a w hI hr => ?_)
  · have hJ := hIw.rely h₁
    exact ⟨rfl, ⟨⟨hJ.wi.fix, hJ.wi.size, hJ.wi.live, hJ.wi.pay, hJ.wi.tape, hJ.wi.os, hJ.wi.output⟩, hJ.blk, hJ.lo⟩, v13, v14, v15, v16, v17, v18, v19, v20, rfl, fun h => (noL h).elim, fun h => (noL h).elim, fun h => (noL h).elim, fun h => (noL h).elim, fun h => (noL h).elim, fun h => (noL h).elim, fun h => (noL h).elim, fun h => (noL h).elim, fun h => (noL h).elim⟩
  obtain ⟨sz, hJ, v13, v14, v15, v16, v17, v18, v19, v20, rfl, c0, c1, c2, c3, c4, c5, c6, c7, c8⟩ := hI
  replace c8 := c8 (all5 sz hr)
  clear c0 c1 c2 c3 c4 c5 c6 c7 hr
  with_reducible refine gd_c T (G_running _ _) (fun _ => stepG_region_end) ?_
  with_reducible refine gd_c T (G_running _ _) (fun _ => stepG_inBlock) ?_
  with_reducible refine gd_c T (G_running _ _) (fun _ => stepG_inBlock) ?_
  with_reducible refine gd_c T (G_running _ _) (fun _ => stepG_inLoop) ?_
  have hh := head24 (x := x) (Stop := x.AtSq (AnchW x bN bO bJ bE) q) B #[.pointer (some ⟨x.Wg, 0, none⟩), .pointer (some ⟨bJ, 0, none⟩), .pointer (some ⟨bN, 0, none⟩), .pointer (some ⟨bO, 0, none⟩), .pointer (some ⟨bE, 0, none⟩), .pointer (some ⟨b, 0, none⟩), v6, v7, .tuple #[goInt 0, .bool true, .agg #[.int .i64 q, .string key], x.ze], .int .i64 0, .bool true, .bool false, .agg #[.int .i64 q, .string key], v13, v14, v15, v16, v17, v18, v19, v20] ⟨rfl, rfl, rfl, rfl, rfl, rfl⟩ T
    (I := fun w => JW x b q #[.int .i64 q, .string key] w ∧ w.cell? (x.oc q) = some (x.val q)) (fun w w₁ r hi => ⟨hi.1.rely r, (r.cell q rfl).trans hi.2⟩) (fun w hi => hi.1.wi) (fun d w es he => JW.same (fun e hm => evK_up (he e hm))) (fun g w hg hi => ⟨rfl, hg, hi.2⟩) w ⟨hJ, c8⟩
  simp only [B24, Tryz.f24, Option.getD_some] at hh
  exact hh.mono (by omega)


end
end Go.Proofs.YtacimedkchjfnaaGreat
end

section
/-! The worker's text is as the phase asks. -/
namespace Go.Proofs.YtacimedkchjfnaaGreat
set_option linter.unusedSimpArgs false
set_option linter.unusedVariables false
open Go.Conc Go.RowKit Go.Conc.Lib Go.ConcR.Gen
section
variable {x : Ph} {bN bO bJ bE : Nat} {nv : Int}
theorem wks24 (B : BX x bN bO bJ bE nv) (Gx : x.Geo) (hzj : x.zj = .agg #[.int .i64 0, .string ByteArray.empty]) (hze : x.ze = .agg #[]) (hN : x.N ≤ 140737488355328)
    (hj : ∀ q, q < x.N → ∃ key : ByteArray, x.job q = .agg #[.int .i64 q, .string key] ∧ key.size ≤ 140737488355328 ∧ x.val q = .int .i64 (shardN key nv : Nat)) : x.WkS Tryz.prog (AnchW x bN bO bJ bE) where
  run := anchW_run
  tries := anchW_tries
  sel := fun g w hg hw => by
    obtain ⟨T, hT, h6, h7, hs⟩ := anchW_same hg
    refine ⟨_, (hs w).trans (sel24 hzj hze hT h6 h7 w), ⟨T, none, hT, h6, h7, rfl⟩, fun q hq w hw => ?_, fun w hw => end24 hT hze w hw⟩
    obtain ⟨key, e1, e2, e3⟩ := hj q hq
    exact job24 hT B Gx hq e1 e2 hN e3 w hw
end
end Go.Proofs.YtacimedkchjfnaaGreat
end

section
/-! What goroutine 0's end may be weakened to. -/
namespace Go.Proofs.YtacimedkchjfnaaGreat
set_option linter.unusedSimpArgs false
set_option linter.unusedVariables false
open Go.Conc
namespace Ph
section
variable {x : Ph} {P : Program} {A A' : Goroutine → Prop} (hA : ∀ g, A g → A' g)
include hA
theorem atAcq_mono {d : Nat} {g : Goroutine} {w : World} (h : x.AtAcq P A d g w) : x.AtAcq P A' d g w := by
  obtain ⟨h1, h2, h3, g', h4, h5⟩ := h
  exact ⟨h1, h2, h3, g', h4, hA _ h5⟩
theorem atW3_mono {d : Nat} {g : Goroutine} {w : World} (h : x.AtW3 P A d g w) : x.AtW3 P A' d g w := by
  obtain ⟨h1, h2, h3, h4⟩ := h
  refine ⟨h1, h2, h3, fun hw => ?_⟩
  obtain ⟨g', e, m, hm⟩ := h4 hw
  exact ⟨g', e, m, hm.weaken fun _ _ _ h => atAcq_mono hA h⟩
theorem atCas_mono {vs : Nat} {Nx Nx' : Nat → Goroutine → World → Prop} (hN : ∀ d g w, Nx d g w → Nx' d g w) {d : Nat} {g : Goroutine} {w : World} (h : x.AtCas P A vs Nx d g w) : x.AtCas P A' vs Nx' d g w := by
  obtain ⟨h1, h2, h3, h4⟩ := h
  refine ⟨h1, h2, fun hw => ?_, fun v hv hw => ?_⟩
  · obtain ⟨g', e, m, hm⟩ := h3 hw
    exact ⟨g', e, m, hm.weaken fun _ _ _ h => atW3_mono hA h⟩
  · obtain ⟨g', e, m, hm⟩ := h4 v hv hw
    exact ⟨g', e, m, hm.weaken hN⟩
theorem atW_mono : ∀ (V : Nat) {d : Nat} {g : Goroutine} {w : World}, x.AtW P A V d g w → x.AtW P A' V d g w
  | 0, _, _, _, h => atAcq_mono hA h
  | V + 1, _, _, _, h => h.imp (atW_mono V) (atCas_mono hA fun _ _ _ => atW_mono V)
end
end Ph
end Go.Proofs.YtacimedkchjfnaaGreat
end

section
/-! Goroutine 0 in 'shards': it closes the end, and waits. -/
namespace Go.Proofs.YtacimedkchjfnaaGreat
set_option linter.unusedSimpArgs false
set_option linter.unusedVariables false
set_option maxRecDepth 100000
open Go.Conc Go.RowKit Go.Conc.Lib Go.ConcR.Gen
open Go.ConcR (KK wgBlock WgAt stA smA rd wr deafBehind_cons deafBehind_one)
open Go.ConcN (WgLive)
theorem arr36 (T : Array Value) (h : T.size = 36) : ∃ v0 v1 v2 v3 v4 v5 v6 v7 v8 v9 v10 v11 v12 v13 v14 v15 v16 v17 v18 v19 v20 v21 v22 v23 v24 v25 v26 v27 v28 v29 v30 v31 v32 v33 v34 v35 : Value, T = #[v0, v1, v2, v3, v4, v5, v6, v7, v8, v9, v10, v11, v12, v13, v14, v15, v16, v17, v18, v19, v20, v21, v22, v23, v24, v25, v26, v27, v28, v29, v30, v31, v32, v33, v34, v35] := by
  obtain ⟨l⟩ := T
  simp only [List.size_toArray] at h
  rcases l with _ | ⟨v0, l⟩
  · simp at h
  rcases l with _ | ⟨v1, l⟩
  · simp at h
  rcases l with _ | ⟨v2, l⟩
  · simp at h
  rcases l with _ | ⟨v3, l⟩
  · simp at h
  rcases l with _ | ⟨v4, l⟩
  · simp at h
  rcases l with _ | ⟨v5, l⟩
  · simp at h
  rcases l with _ | ⟨v6, l⟩
  · simp at h
  rcases l with _ | ⟨v7, l⟩
  · simp at h
  rcases l with _ | ⟨v8, l⟩
  · simp at h
  rcases l with _ | ⟨v9, l⟩
  · simp at h
  rcases l with _ | ⟨v10, l⟩
  · simp at h
  rcases l with _ | ⟨v11, l⟩
  · simp at h
  rcases l with _ | ⟨v12, l⟩
  · simp at h
  rcases l with _ | ⟨v13, l⟩
  · simp at h
  rcases l with _ | ⟨v14, l⟩
  · simp at h
  rcases l with _ | ⟨v15, l⟩
  · simp at h
  rcases l with _ | ⟨v16, l⟩
  · simp at h
  rcases l with _ | ⟨v17, l⟩
  · simp at h
  rcases l with _ | ⟨v18, l⟩
  · simp at h
  rcases l with _ | ⟨v19, l⟩
  · simp at h
  rcases l with _ | ⟨v20, l⟩
  · simp at h
  rcases l with _ | ⟨v21, l⟩
  · simp at h
  rcases l with _ | ⟨v22, l⟩
  · simp at h
  rcases l with _ | ⟨v23, l⟩
  · simp at h
  rcases l with _ | ⟨v24, l⟩
  · simp at h
  rcases l with _ | ⟨v25, l⟩
  · simp at h
  rcases l with _ | ⟨v26, l⟩
  · simp at h
  rcases l with _ | ⟨v27, l⟩
  · simp at h
  rcases l with _ | ⟨v28, l⟩
  · simp at h
  rcases l with _ | ⟨v29, l⟩
  · simp at h
  rcases l with _ | ⟨v30, l⟩
  · simp at h
  rcases l with _ | ⟨v31, l⟩
  · simp at h
  rcases l with _ | ⟨v32, l⟩
  · simp at h
  rcases l with _ | ⟨v33, l⟩
  · simp at h
  rcases l with _ | ⟨v34, l⟩
  · simp at h
  rcases l with _ | ⟨v35, l⟩
  · simp at h
  rcases l with _ | ⟨x, l⟩
  · exact ⟨v0, v1, v2, v3, v4, v5, v6, v7, v8, v9, v10, v11, v12, v13, v14, v15, v16, v17, v18, v19, v20, v21, v22, v23, v24, v25, v26, v27, v28, v29, v30, v31, v32, v33, v34, v35, rfl⟩
  · simp at h
/-- The slots of 'shards'. -/
structure T16 (x : Ph) (bN bO bJ bE : Nat) (keys : Value) (T : Array Value) : Prop where
  size : T.size = 36
  t0 : T[0]? = some keys
  t3 : T[3]? = some (.pointer (some ⟨bN, 0, none⟩))
  t5 : T[5]? = some (.pointer (some ⟨bO, 0, none⟩))
  t6 : T[6]? = some (.pointer (some ⟨bJ, 0, none⟩))
  t7 : T[7]? = some (.pointer (some ⟨bE, 0, none⟩))
  t8 : T[8]? = some (.pointer (some ⟨x.Wg, 0, none⟩))
noncomputable def E16 : Code := match Tryz.f16.body.getD .skip with
  | .seq _ (.seq _ (.seq _ (.seq _ (.seq _ (.seq _ c))))) => c
  | _ => .skip
noncomputable def ops14 : Array Oper := match E16 with
  | .seq (.region _ ops _) _ => ops
  | _ => #[]
noncomputable def K14 : Code := match E16 with
  | .seq _ c => c
  | _ => .skip
noncomputable def ops15 : Array Oper := match K14 with
  | .seq (.region _ ops _) _ => ops
  | _ => #[]
noncomputable def K15 : Code := match K14 with
  | .seq _ c => c
  | _ => .skip
section
variable {x : Ph} {bN bO bJ bE : Nat} {nv : Int} {keys : Value} {cs₀ : List Frame}
/-- Goroutine 0 behind its Wait. -/
def AnchF (x : Ph) (bN bO bJ bE : Nat) (keys : Value) (cs₀ : List Frame) (g : Goroutine) : Prop := ∃ T, T16 x bN bO bJ bE keys T ∧ AnchR (backW (base 16) ⟨T, []⟩ ops15 0 [] [.code K15] cs₀) g
set_option maxHeartbeats 4000000 in
theorem close14 (Gx : x.Geo) {T₀ : Array Value} (hT : T16 x bN bO bJ bE keys T₀) (h33 : T₀[33]? = some (.chan (some x.E))) (w : World) (hwi : x.WI w) (hcl : x.CL 3 w) :
    x.AtCl Tryz.prog (AnchF x bN bO bJ bE keys cs₀) 0 (G ((base 16).at ⟨T₀, []⟩ [.inRegion ops14 [1], .code K14]) cs₀) w := by
  obtain ⟨v0, v1, v2, v3, v4, v5, v6, v7, v8, v9, v10, v11, v12, v13, v14, v15, v16, v17, v18, v19, v20, v21, v22, v23, v24, v25, v26, v27, v28, v29, v30, v31, v32, v33, v34, v35, rfl⟩ := arr36 T₀ hT.size
  obtain ⟨_, e0, e3, e5, e6, e7, e8⟩ := id hT
  simp only [List.getElem?_toArray, List.getElem?_cons_succ, List.getElem?_cons_zero, Option.some.injEq] at e0 e3 e5 e6 e7 e8 h33
  subst e0 e3 e5 e6 e7 e8 h33
  have T := tM x
  refine ⟨rfl, rfl, ?_, fun s r hE => ⟨_, (stepG_value (v := .tuple #[]) (w' := w.setChan x.E 0 #[] true s r false) (o := ops14.getD 1 default) rfl rfl (by decide) ?_).trans (congrArg _ ?_), rfl, ?_⟩⟩
  · simp [mayWake, G, Frame.at, ops14, E16, Tryz.f16]
    
  · refine run_eq_of (fun K hK => ?_)
    simp only [ops14, E16, Tryz.f16, Option.getD_some]
    go_simp
    rw [run_close_open _ _ hE]
    exact hK
  · simp only [ops14, E16, Tryz.f16, Option.getD_some]
    have hce := fun es => events_close_open (P := Tryz.prog) (es := es) #[52] 0 hE
    simp [listed, go_sem, hce]
    have l16 : (Tryz.prog.funcs[(base 16).fn]?).any (·.norace) = false := by kernel_rfl
    simp [seen, l16]
  have hup := Ph.upd_setChan w x.E 0 #[] true s r false
  have hwi' := hup.wi hwi (fun b e hf => hf.2.2.2.2 e) (Ph.live_of_block hwi.live (hup.block _ (by have := hwi.size; have := Gx.wg; omega) Gx.wge)) (Ph.pay_of_block hwi.pay (hup.block _ (by have := hwi.size; have := Gx.c; omega) Gx.ce))
  have hcl' : x.CL 3 (w.setChan x.E 0 #[] true s r false) := by
    obtain ⟨v, hv, hw⟩ := hcl
    exact ⟨v, hv, Ph.wgAt_of_block hw (hup.block _ (by have := hwi.size; have := Gx.wg; omega) Gx.wge)⟩
  generalize w.setChan x.E 0 #[] true s r false = w' at hwi' hcl' ⊢
  obtain ⟨m, hm⟩ := wait_walk (x := x) (b₀ := base 16) (a₀ := ⟨#[v0, v1, v2, (.pointer (some ⟨bN, 0, none⟩)), v4, (.pointer (some ⟨bO, 0, none⟩)), (.pointer (some ⟨bJ, 0, none⟩)), (.pointer (some ⟨bE, 0, none⟩)), (.pointer (some ⟨x.Wg, 0, none⟩)), v9, v10, v11, v12, v13, v14, v15, v16, v17, v18, v19, v20, v21, v22, v23, v24, v25, v26, v27, v28, v29, v30, v31, v32, (.chan (some x.E)), v34, v35], []⟩) (ops₀ := ops15) (i₀ := 0) (rest₀ := []) (k₀ := [.code K15]) (cs₀ := cs₀)
  refine ⟨m + 20, ?_⟩
  replace hm := (hm w' hwi' hcl').weaken (Stop' := x.AtW Tryz.prog (AnchF x bN bO bJ bE v0 cs₀) 3) (fun d g w h => Ph.atW_mono (fun g hg => ⟨_, hT, hg⟩) 3 h)
  simp only [ops14, ops15, K14, K15, E16, Tryz.f16, Option.getD_some] at hm ⊢
  walk_nrm
  with_reducible refine gd_c T (G_running _ _) (fun _ => stepG_region_end) ?_
  with_reducible refine gd_c T (G_running _ _) (fun _ => stepG_seq) ?_
  ((with_reducible refine gd_c T (G_running _ _) (fun _ => stepG_region) ?_); simp only [List.size_toArray, List.length_cons, List.length_nil, Nat.reduceAdd, Nat.zero_add, List.range, List.range.loop])
  (refine gd_call T rfl rfl (by k_ne) rfl Tryz.func26 cn26 rfl ?_; walk_nrmf Tryz.f26)
  simp only [Tryz.f26, Option.getD_some] at hm
  exact hm.mono (by omega)
end
end Go.Proofs.YtacimedkchjfnaaGreat
end
