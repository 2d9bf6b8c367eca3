/- Part 7 of the proof: C4, C5, C6. -/
import Derived.Test.YtacimedkchjfnaaGreatV06
section
/-! Goroutine 0's Wait, whole. -/
namespace Go.Proofs.YtacimedkchjfnaaGreat
set_option linter.unusedSimpArgs false
set_option linter.unusedVariables false
set_option maxRecDepth 100000
open Go.Conc Go.RowKit Go.Conc.Lib Go.ConcR.Gen
open Go.ConcR (KK wgBlock WgAt stA smA rd wr deafBehind_cons deafBehind_one)
open Go.ConcN (WgLive)
section
variable {x : Ph} {b₀ : Frame} {a₀ : Act} {ops₀ : Array Oper} {i₀ : Nat} {rest₀ : List Nat} {k₀ : List Item} {cs₀ : List Frame}
set_option maxHeartbeats 4000000 in
theorem wait_walk : ∃ m, ∀ w, x.WI w → x.CL 3 w →
    GD Tryz.prog true x.RM x.DM (x.AtW Tryz.prog (AnchR (backW b₀ a₀ ops₀ i₀ rest₀ k₀ cs₀)) 3) m 0 (G ((base 26).at ⟨#[.pointer (some ⟨x.Wg, 0, none⟩), undef, undef, undef, undef, undef, undef, undef, undef, undef, undef, undef, undef, undef, undef, undef, undef, undef, undef, undef, undef, undef, undef, undef, undef, undef, undef, undef, undef, undef, undef, undef, undef, undef, undef, undef, undef, undef, undef, undef, undef, undef, undef, undef, undef, undef, undef, undef, undef, undef, undef, undef, undef, undef, undef, undef, undef, undef, undef, undef, undef, undef, undef, undef, undef, undef, undef, undef, undef, undef, undef, undef, undef, undef, undef, undef, undef, undef, undef, undef, undef, undef, undef, undef], []⟩ [.code (Tryz.f26.body.getD .skip)]) (b₀.at a₀ (.inRegion ops₀ (i₀ :: rest₀) :: k₀) :: cs₀)) w := by
  obtain ⟨M, hM⟩ := wait_round (x := x) (b₀ := b₀) (a₀ := a₀) (ops₀ := ops₀) (i₀ := i₀) (rest₀ := rest₀) (k₀ := k₀) (cs₀ := cs₀) 3 (Nat.le_refl _)
  refine ⟨M + 20, fun w hwi hcl => ?_⟩
  have H := Tryz.wgLib
  have T := tM x
  have TS : ∀ (d : Nat) (w : World) (e : Event), e.mute = true → x.DM d w w #[e] := fun d w e he => ⟨rfl, fun e' he' => by rw [Array.mem_singleton] at he'; subst he'; exact .inr (.inr (.inr he))⟩
  simp only [Tryz.f26, Option.getD_some]
  with_reducible refine gd_c T (G_running _ _) (fun _ => stepG_seq) ?_
  (refine gd_c T rfl (fun _ => stepG_cond (t := true) rfl) ?_; simp only [if_true, if_false, Bool.false_eq_true, ↓reduceIte])
  ((with_reducible refine gd_c T (G_running _ _) (fun _ => stepG_region) ?_); simp only [List.size_toArray, List.length_cons, List.length_nil, Nat.reduceAdd, Nat.zero_add, List.range, List.range.loop])
  (refine gd_said T.tr _ (fun w => TS _ w _ rfl) rfl (fun _ => stepG_mark0 .disable (by simp) rfl rfl (by k_ne) rfl H.f_disable (x_disable_n Tryz.link) (x_disable_b Tryz.link) (x_disable_x Tryz.link) (x_disable_f Tryz.link)) ?_; simp only [deafBehind_disable, Nat.zero_add, Nat.reduceAdd]; (try walk_nrm))
  with_reducible refine gd_c T (G_running _ _) (fun _ => stepG_region_end) ?_
  with_reducible refine gd_c T (G_running _ _) (fun _ => stepG_block) ?_
  with_reducible refine gd_c T (G_running _ _) (fun _ => stepG_loop) ?_
  exact (hM _ _ rfl rfl hwi hcl).mono (by omega)
end
end Go.Proofs.YtacimedkchjfnaaGreat
end

section
/-! Goroutine 0's Add(1), nobody else being at the group. -/
namespace Go.Proofs.YtacimedkchjfnaaGreat
set_option linter.unusedSimpArgs false
set_option linter.unusedVariables false
set_option maxRecDepth 100000
open Go.Conc Go.RowKit Go.Conc.Lib Go.ConcR.Gen
open Go.ConcR (KK wgBlock WgAt stA smA rd wr deafBehind_cons deafBehind_one)
open Go.ConcN (WgLive)
theorem tS (x : Ph) : GT AtRel x.DS := ⟨atRel_trans, fun d w => ⟨fun _ _ => rfl, id, rfl, rfl, rfl, rfl, fun e he => by simp at he⟩⟩
theorem ds_ev {x : Ph} {d : Nat} {w : World} {e : Event} (h : x.EvM e) : x.DS d w w #[e] := ⟨fun _ _ => rfl, id, rfl, rfl, rfl, rfl, fun e' he' => by rw [Array.mem_singleton] at he'; subst he'; exact h⟩
theorem rel_live {ty : TypeId} {Wg : Nat} {w w₁ : World} (h : WgLive ty Wg w) (r : AtRel w w₁) : WgLive ty Wg w₁ := by
  obtain ⟨d, rfl⟩ := r
  exact h
theorem rel_at {ty : TypeId} {Wg : Nat} {w w₁ : World} {st sm : Int} (h : WgAt ty Wg w st sm) (r : AtRel w w₁) : WgAt ty Wg w₁ st sm := by
  obtain ⟨d, rfl⟩ := r
  exact h
/-- AtRel as a rely of its own. -/
theorem _root_.Go.Conc.AtRel.live {w w₁ : World} (r : AtRel w w₁) {ty : TypeId} {Wg : Nat} (h : WgLive ty Wg w) : WgLive ty Wg w₁ := rel_live h r
section
variable {x : Ph} {b₀ : Frame} {a₀ : Act} {ops₀ : Array Oper} {i₀ : Nat} {rest₀ : List Nat} {k₀ : List Item} {cs₀ : List Frame} {Stop : Nat → Goroutine → World → Prop} {m : Nat}
set_option maxHeartbeats 8000000 in
theorem add_walk {j : Nat} (hj : j < 3) (w : World) (hwg : WgAt x.ty x.Wg w ((j : Int) * KK) 0)
    (hnext : ∀ d, GD Tryz.prog true AtRel x.DS Stop m 0 (backW b₀ a₀ ops₀ i₀ rest₀ k₀ cs₀) ((w.at d).setCell (stA x.Wg) (.int .u64 (((j + 1 : Nat) : Int) * KK)))) :
    GD Tryz.prog true AtRel x.DS Stop (m + 200) 0 (G ((base 23).at ⟨#[.pointer (some ⟨x.Wg, 0, none⟩), .int .i64 1, undef, undef, undef, undef, undef, undef, undef, undef, undef, undef, undef, undef, undef, undef, undef, undef, undef, undef, undef, undef, undef, undef, undef, undef, undef, undef, undef, undef, undef, undef, undef, undef, undef, undef, undef, undef, undef, undef, undef, undef, undef, undef, undef, undef, undef, undef, undef, undef, undef, undef, undef, undef, undef, undef, undef, undef, undef, undef, undef, undef, undef, undef, undef, undef, undef, undef, undef, undef, undef, undef, undef, undef, undef, undef, undef, undef, undef, undef, undef, undef, undef, undef, undef, undef, undef, undef, undef, undef, undef, undef, undef, undef, undef, undef, undef, undef, undef, undef, undef, undef, undef, undef, undef, undef, undef, undef, undef, undef, undef, undef, undef, undef, undef, undef, undef], []⟩ [.code (Tryz.f23.body.getD .skip)]) (b₀.at a₀ (.inRegion ops₀ (i₀ :: rest₀) :: k₀) :: cs₀)) w := by
  have H := Tryz.wgLib
  have T := tS x
  have TS : ∀ (d : Nat) (w : World) (e : Event), e.mute = true → x.DS d w w #[e] := fun d w e he => ds_ev (.inr (.inr (.inr he)))
  have TRD : ∀ (d : Nat) (w : World), x.DS d w w #[Go.ConcR.mk (.read ⟨x.Wg, 1, none⟩)] := fun d w => ds_ev (.inr (.inl ⟨_, rfl, .inl rfl⟩))
  have hwi : LB x w := ⟨⟨_, _, hwg⟩⟩
  simp only [Tryz.f23, Option.getD_some]
  with_reducible refine gd_c T (G_running _ _) (fun _ => stepG_seq) ?_
  (refine gd_c T rfl (fun _ => stepG_cond (t := true) rfl) ?_; simp only [if_true, if_false, Bool.false_eq_true, ↓reduceIte])
  with_reducible refine gd_c T (G_running _ _) (fun _ => stepG_seq) ?_
  with_reducible refine gd_c T (G_running _ _) (fun _ => stepG_seq) ?_
  ((with_reducible refine gd_c T (G_running _ _) (fun _ => stepG_region) ?_); simp only [List.size_toArray, List.length_cons, List.length_nil, Nat.reduceAdd, Nat.zero_add, List.range, List.range.loop])
  (co_applyP gd_val T rfl rfl (by k_ne) ?_ ?_ ?_; (focus (intro _ K hK; go_simp; (try w_num); exact hK)); (focus (intro _; simp [go_sem, *]; done)); (try walk_nrm))
  (co_applyP gd_val T rfl rfl (by k_ne) ?_ ?_ ?_; (focus (intro _ K hK; go_simp; (try w_num); exact hK)); (focus (intro _; simp [go_sem, *]; done)); (try walk_nrm))
  with_reducible refine gd_c T (G_running _ _) (fun _ => stepG_region_end) ?_
  (refine gd_c T rfl (fun _ => stepG_cond (t := false) rfl) ?_; simp only [if_true, if_false, Bool.false_eq_true, ↓reduceIte])
  with_reducible refine gd_c T (G_running _ _) (fun _ => stepG_skip) ?_
  with_reducible refine gd_c T (G_running _ _) (fun _ => stepG_seq) ?_
  ((with_reducible refine gd_c T (G_running _ _) (fun _ => stepG_region) ?_); simp only [List.size_toArray, List.length_cons, List.length_nil, Nat.reduceAdd, Nat.zero_add, List.range, List.range.loop])
  (refine gd_said T.tr _ (fun w => TS _ w _ rfl) rfl (fun _ => stepG_mark0 .disable (by simp) rfl rfl (by k_ne) rfl H.f_disable (x_disable_n Tryz.link) (x_disable_b Tryz.link) (x_disable_x Tryz.link) (x_disable_f Tryz.link)) ?_; simp only [deafBehind_disable, Nat.zero_add, Nat.reduceAdd]; (try walk_nrm))
  with_reducible refine gd_c T (G_running _ _) (fun _ => stepG_region_end) ?_
  ((with_reducible refine gd_c T (G_running _ _) (fun _ => stepG_region) ?_); simp only [List.size_toArray, List.length_cons, List.length_nil, Nat.reduceAdd, Nat.zero_add, List.range, List.range.loop])
  (refine gd_c T rfl (fun _ => stepG_defer rfl rfl (by k_ne) rfl) ?_; (try walk_nrm))
  with_reducible refine gd_c T (G_running _ _) (fun _ => stepG_region_end) ?_
  with_reducible refine gd_c T (G_running _ _) (fun _ => stepG_seq) ?_
  ((with_reducible refine gd_c T (G_running _ _) (fun _ => stepG_region) ?_); simp only [List.size_toArray, List.length_cons, List.length_nil, Nat.reduceAdd, Nat.zero_add, List.range, List.range.loop])
  (co_applyP gd_val T rfl rfl (by k_ne) ?_ ?_ ?_; (focus (intro _ K hK; go_simp; (try w_num); exact hK)); (focus (intro _; simp [go_sem, *]; done)); (try walk_nrm))
  with_reducible refine gd_c T (G_running _ _) (fun _ => stepG_region_end) ?_
  with_reducible refine gd_c T (G_running _ _) (fun _ => stepG_seq) ?_
  with_reducible refine gd_c T (G_running _ _) (fun _ => stepG_seq) ?_
  ((with_reducible refine gd_c T (G_running _ _) (fun _ => stepG_region) ?_); simp only [List.size_toArray, List.length_cons, List.length_nil, Nat.reduceAdd, Nat.zero_add, List.range, List.range.loop])
  (refine gd_c T rfl (fun _ => stepG_entry_pure (.bool false) rfl rfl (by k_ne) rfl H.f_inBubble (x_inBubble_n Tryz.link) (x_inBubble_b Tryz.link) (x_inBubble_x Tryz.link) (x_inBubble_f Tryz.link)) ?_; (try walk_nrm))
  with_reducible refine gd_c T (G_running _ _) (fun _ => stepG_region_end) ?_
  (refine gd_c T rfl (fun _ => stepG_cond (t := false) rfl) ?_; simp only [if_true, if_false, Bool.false_eq_true, ↓reduceIte])
  with_reducible refine gd_c T (G_running _ _) (fun _ => stepG_skip) ?_
  with_reducible refine gd_c T (G_running _ _) (fun _ => stepG_seq) ?_
  ((with_reducible refine gd_c T (G_running _ _) (fun _ => stepG_region) ?_); simp only [List.size_toArray, List.length_cons, List.length_nil, Nat.reduceAdd, Nat.zero_add, List.range, List.range.loop])
  (co_applyP gd_val T rfl rfl (by k_ne) ?_ ?_ ?_; (focus (intro _ K hK; go_simp; (try w_num); exact hK)); (focus (intro _; simp [go_sem, *]; done)); (try walk_nrm))
  (co_applyP gd_val T rfl rfl (by k_ne) ?_ ?_ ?_; (focus (intro _ K hK; go_simp; (try w_num); exact hK)); (focus (intro _; simp [go_sem, *]; done)); (try walk_nrm))
  (co_applyP gd_val T rfl rfl (by k_ne) ?_ ?_ ?_; (focus (intro _ K hK; go_simp; (try w_num); exact hK)); (focus (intro _; simp [go_sem, *]; done)); (try walk_nrm))
  (co_applyP gd_val T rfl rfl (by k_ne) ?_ ?_ ?_; (focus (intro _ K hK; go_simp; (try w_num); exact hK)); (focus (intro _; simp [go_sem, *]; done)); (try walk_nrm))
  (co_applyP gd_val T rfl rfl (by k_ne) ?_ ?_ ?_; (focus (intro _ K hK; go_simp; (try w_num); exact hK)); (focus (intro _; simp [go_sem, *]; done)); (try walk_nrm))
  (co_applyP gd_val T rfl rfl (by k_ne) ?_ ?_ ?_; (focus (intro _ K hK; go_simp; (try w_num); exact hK)); (focus (intro _; simp [go_sem, *]; done)); (try walk_nrm))
  (refine gd_call T rfl rfl (by k_ne) rfl Tryz.func38 cn38 rfl ?_; walk_nrmf Tryz.f38)
  with_reducible refine gd_c T (G_running _ _) (fun _ => stepG_seq) ?_
  ((with_reducible refine gd_c T (G_running _ _) (fun _ => stepG_region) ?_); simp only [List.size_toArray, List.length_cons, List.length_nil, Nat.reduceAdd, Nat.zero_add, List.range, List.range.loop])
  (co_applyP gd_val T rfl rfl (by k_ne) ?_ ?_ ?_; (focus (intro _ K hK; go_simp; (try w_num); exact hK)); (focus (intro _; simp [go_sem, *]; done)); (try walk_nrm))
  with_reducible refine gd_c T (G_running _ _) (fun _ => stepG_region_end) ?_
  with_reducible refine gd_c T (G_running _ _) (fun _ => stepG_seq) ?_
  ((with_reducible refine gd_c T (G_running _ _) (fun _ => stepG_region) ?_); simp only [List.size_toArray, List.length_cons, List.length_nil, Nat.reduceAdd, Nat.zero_add, List.range, List.range.loop])
  (co_applyP gd_val T rfl rfl (by k_ne) ?_ ?_ ?_; (focus (intro _ K hK; go_simp; (try w_num); exact hK)); (focus (intro _; simp [go_sem, *]; done)); (try walk_nrm))
  (co_applyP gd_val T rfl rfl (by k_ne) ?_ ?_ ?_; (focus (intro _ K hK; go_simp; (try w_num); exact hK)); (focus (intro _; simp [go_sem, *]; done)); (try walk_nrm))
  (co_applyP gd_val T rfl rfl (by k_ne) ?_ ?_ ?_; (focus (intro _ K hK; go_simp; (try w_num); exact hK)); (focus (intro _; simp [go_sem, *]; done)); (try walk_nrm))
  (co_applyP gd_val T rfl rfl (by k_ne) ?_ ?_ ?_; (focus (intro _ K hK; go_simp; (try w_num); exact hK)); (focus (intro _; simp [go_sem, *]; done)); (try walk_nrm))
  refine GD.step rfl (fun w₁ h₁ => ?_)
  obtain ⟨d₁, rfl⟩ := h₁
  replace hwg : WgAt x.ty x.Wg (w.at d₁) ((j : Int) * KK) 0 := hwg
  have hn := hnext d₁
  clear hnext
  obtain rfl | rfl | rfl : j = 0 ∨ j = 1 ∨ j = 2 := by omega
  · have e0 : IntKind.u64.wrap (((0 : Nat) : Int) * KK + 4294967296) = 4294967296 := by decide
    have e1 : (((0 + 1 : Nat) : Int)) * KK = 4294967296 := by decide
    rw [stepG_add_atomic rfl rfl (by k_ne) rfl H.f_addU64 (x_addU64_n Tryz.link) (x_addU64_b Tryz.link) (x_addU64_x Tryz.link) .u64 (x_addU64_f Tryz.link) rfl rfl hwg.cellSt (hwg.thaw 0)]
    simp only [e0, goes_go]
    simp only [e1] at hn
    replace hwg := hwg.setSt 4294967296
    refine ⟨⟨fun k hk => Below.heap_setCell _ _ _ _ hk, fun _ => ⟨_, _, hwg⟩, by simp, rfl, rfl, rfl, fun e he => Ph.rdwr_evM he⟩, ?_⟩
    have db0 : deafBehind 1 #[(⟨.cell (stA x.Wg), false, true⟩ : Event), ⟨.cell (stA x.Wg), true, true⟩] = 1 := rfl
    rw [db0]
    clear db0 e0 e1
    replace hwi : LB x ((w.at d₁).setCell (stA x.Wg) (.int .u64 4294967296)) := ⟨⟨_, _, hwg⟩⟩
    walk_nrm
    generalize (w.at d₁).setCell (stA x.Wg) (.int .u64 4294967296) = w at hn hwi ⊢
    clear hwg
    (co_applyP gd_val T rfl rfl (by k_ne) ?_ ?_ ?_; (focus (intro _ K hK; go_simp; (try w_num); exact hK)); (focus (intro _; simp [go_sem, *]; done)); (try walk_nrm))
    with_reducible refine gd_c T (G_running _ _) (fun _ => stepG_region_end) ?_
    with_reducible refine gd_c T (G_running _ _) (fun _ => stepG_ret') ?_
    (refine gd_leave1 T rfl rfl Tryz.func38 rfl ?_; (try walk_nrm))
    (co_applyP gd_val T rfl rfl (by k_ne) ?_ ?_ ?_; (focus (intro _ K hK; go_simp; (try w_num); exact hK)); (focus (intro _; simp [go_sem, *]; done)); (try walk_nrm))
    with_reducible refine gd_c T (G_running _ _) (fun _ => stepG_region_end) ?_
    with_reducible refine gd_c T (G_running _ _) (fun _ => stepG_seq) ?_
    with_reducible refine gd_c T (G_running _ _) (fun _ => stepG_seq) ?_
    ((with_reducible refine gd_c T (G_running _ _) (fun _ => stepG_region) ?_); simp only [List.size_toArray, List.length_cons, List.length_nil, Nat.reduceAdd, Nat.zero_add, List.range, List.range.loop])
    (co_applyP gd_val T rfl rfl (by k_ne) ?_ ?_ ?_; (focus (intro _ K hK; go_simp; (try w_num); exact hK)); (focus (intro _; simp [go_sem, *]; done)); (try walk_nrm))
    (co_applyP gd_val T rfl rfl (by k_ne) ?_ ?_ ?_; (focus (intro _ K hK; go_simp; (try w_num); exact hK)); (focus (intro _; simp [go_sem, *]; done)); (try walk_nrm))
    (co_applyP gd_val T rfl rfl (by k_ne) ?_ ?_ ?_; (focus (intro _ K hK; go_simp; (try w_num); exact hK)); (focus (intro _; simp [go_sem, *]; done)); (try walk_nrm))
    (co_applyP gd_val T rfl rfl (by k_ne) ?_ ?_ ?_; (focus (intro _ K hK; go_simp; (try w_num); exact hK)); (focus (intro _; simp [go_sem, *]; done)); (try walk_nrm))
    (refine gd_c T rfl (fun _ => stepG_unwanted rfl rfl) ?_; (try walk_nrm))
    (refine gd_c T rfl (fun _ => stepG_unwanted rfl rfl) ?_; (try walk_nrm))
    (co_applyP gd_val T rfl rfl (by k_ne) ?_ ?_ ?_; (focus (intro _ K hK; go_simp; (try w_num); exact hK)); (focus (intro _; simp [go_sem, *]; done)); (try walk_nrm))
    with_reducible refine gd_c T (G_running _ _) (fun _ => stepG_region_end) ?_
    (refine gd_c T rfl (fun _ => stepG_cond (t := false) rfl) ?_; simp only [if_true, if_false, Bool.false_eq_true, ↓reduceIte])
    with_reducible refine gd_c T (G_running _ _) (fun _ => stepG_skip) ?_
    with_reducible refine gd_c T (G_running _ _) (fun _ => stepG_seq) ?_
    ((with_reducible refine gd_c T (G_running _ _) (fun _ => stepG_region) ?_); simp only [List.size_toArray, List.length_cons, List.length_nil, Nat.reduceAdd, Nat.zero_add, List.range, List.range.loop])
    (co_applyP gd_val T rfl rfl (by k_ne) ?_ ?_ ?_; (focus (intro _ K hK; go_simp; (try w_num); exact hK)); (focus (intro _; simp [go_sem, *]; done)); (try walk_nrm))
    (co_applyP gd_val T rfl rfl (by k_ne) ?_ ?_ ?_; (focus (intro _ K hK; go_simp; (try w_num); exact hK)); (focus (intro _; simp [go_sem, *]; done)); (try walk_nrm))
    (co_applyP gd_val T rfl rfl (by k_ne) ?_ ?_ ?_; (focus (intro _ K hK; go_simp; (try w_num); exact hK)); (focus (intro _; simp [go_sem, *]; done)); (try walk_nrm))
    (co_applyP gd_val T rfl rfl (by k_ne) ?_ ?_ ?_; (focus (intro _ K hK; go_simp; (try w_num); exact hK)); (focus (intro _; simp [go_sem, *]; done)); (try walk_nrm))
    with_reducible refine gd_c T (G_running _ _) (fun _ => stepG_region_end) ?_
    with_reducible refine gd_c T (G_running _ _) (fun _ => stepG_seq) ?_
    ((with_reducible refine gd_c T (G_running _ _) (fun _ => stepG_region) ?_); simp only [List.size_toArray, List.length_cons, List.length_nil, Nat.reduceAdd, Nat.zero_add, List.range, List.range.loop])
    (co_applyP gd_val T rfl rfl (by k_ne) ?_ ?_ ?_; (focus (intro _ K hK; go_simp; (try w_num); exact hK)); (focus (intro _; simp [go_sem, *]; done)); (try walk_nrm))
    (co_applyP gd_val T rfl rfl (by k_ne) ?_ ?_ ?_; (focus (intro _ K hK; go_simp; (try w_num); exact hK)); (focus (intro _; simp [go_sem, *]; done)); (try walk_nrm))
    (co_applyP gd_val T rfl rfl (by k_ne) ?_ ?_ ?_; (focus (intro _ K hK; go_simp; (try w_num); exact hK)); (focus (intro _; simp [go_sem, *]; done)); (try walk_nrm))
    (co_applyP gd_val T rfl rfl (by k_ne) ?_ ?_ ?_; (focus (intro _ K hK; go_simp; (try w_num); exact hK)); (focus (intro _; simp [go_sem, *]; done)); (try walk_nrm))
    with_reducible refine gd_c T (G_running _ _) (fun _ => stepG_region_end) ?_
    with_reducible refine gd_c T (G_running _ _) (fun _ => stepG_seq) ?_
    with_reducible refine gd_c T (G_running _ _) (fun _ => stepG_seq) ?_
    ((with_reducible refine gd_c T (G_running _ _) (fun _ => stepG_region) ?_); simp only [List.size_toArray, List.length_cons, List.length_nil, Nat.reduceAdd, Nat.zero_add, List.range, List.range.loop])
    (co_applyP gd_val T rfl rfl (by k_ne) ?_ ?_ ?_; (focus (intro _ K hK; go_simp; (try w_num); exact hK)); (focus (intro _; simp [go_sem, *]; done)); (try walk_nrm))
    (co_applyP gd_val T rfl rfl (by k_ne) ?_ ?_ ?_; (focus (intro _ K hK; go_simp; (try w_num); exact hK)); (focus (intro _; simp [go_sem, *]; done)); (try walk_nrm))
    (co_applyP gd_val T rfl rfl (by k_ne) ?_ ?_ ?_; (focus (intro _ K hK; go_simp; (try w_num); exact hK)); (focus (intro _; simp [go_sem, *]; done)); (try walk_nrm))
    (co_applyP gd_val T rfl rfl (by k_ne) ?_ ?_ ?_; (focus (intro _ K hK; go_simp; (try w_num); exact hK)); (focus (intro _; simp [go_sem, *]; done)); (try walk_nrm))
    (co_applyP gd_val T rfl rfl (by k_ne) ?_ ?_ ?_; (focus (intro _ K hK; go_simp; (try w_num); exact hK)); (focus (intro _; simp [go_sem, *]; done)); (try walk_nrm))
    (co_applyP gd_val T rfl rfl (by k_ne) ?_ ?_ ?_; (focus (intro _ K hK; go_simp; (try w_num); exact hK)); (focus (intro _; simp [go_sem, *]; done)); (try walk_nrm))
    (co_applyP gd_val T rfl rfl (by k_ne) ?_ ?_ ?_; (focus (intro _ K hK; go_simp; (try w_num); exact hK)); (focus (intro _; simp [go_sem, *]; done)); (try walk_nrm))
    (co_applyP gd_val T rfl rfl (by k_ne) ?_ ?_ ?_; (focus (intro _ K hK; go_simp; (try w_num); exact hK)); (focus (intro _; simp [go_sem, *]; done)); (try walk_nrm))
    (co_applyP gd_val T rfl rfl (by k_ne) ?_ ?_ ?_; (focus (intro _ K hK; go_simp; (try w_num); exact hK)); (focus (intro _; simp [go_sem, *]; done)); (try walk_nrm))
    (co_applyP gd_val T rfl rfl (by k_ne) ?_ ?_ ?_; (focus (intro _ K hK; go_simp; (try w_num); exact hK)); (focus (intro _; simp [go_sem, *]; done)); (try walk_nrm))
    with_reducible refine gd_c T (G_running _ _) (fun _ => stepG_region_end) ?_
    (refine gd_c T rfl (fun _ => stepG_cond (t := true) rfl) ?_; simp only [if_true, if_false, Bool.false_eq_true, ↓reduceIte])
    ((with_reducible refine gd_c T (G_running _ _) (fun _ => stepG_region) ?_); simp only [List.size_toArray, List.length_cons, List.length_nil, Nat.reduceAdd, Nat.zero_add, List.range, List.range.loop])
    (co_applyP gd_val T rfl rfl (by k_ne) ?_ ?_ ?_; (focus (intro _ K hK; go_simp; (try w_num); exact hK)); (focus (intro _; simp [go_sem, *]; done)); (try walk_nrm))
    (co_applyP gd_val T rfl rfl (by k_ne) ?_ ?_ ?_; (focus (intro _ K hK; go_simp; (try w_num); exact hK)); (focus (intro _; simp [go_sem, *]; done)); (try walk_nrm))
    (co_applyP gd_val T rfl rfl (by k_ne) ?_ ?_ ?_; (focus (intro _ K hK; go_simp; (try w_num); exact hK)); (focus (intro _; simp [go_sem, *]; done)); (try walk_nrm))
    (co_applyP gd_val' T rfl rfl (by k_ne) ?_ ?_ ?_; (focus (intro w₁ h₁ K hK; obtain ⟨_, hcc⟩ := lcell1 (h₁.live hwi.live); have hcv := run_convert_to_unsafe (P := Tryz.prog) H.underlying_tPU32 H.underlying_tUP H.room_tU32 hcc; go_simp; exact hK)); (focus (intro w₁ h₁; have hce := fun es => events_convert_to_unsafe (P := Tryz.prog) H.underlying_tPU32 H.underlying_tUP H.room_tU32 (lcell1 (h₁.live hwi.live)).choose_spec es; simp [go_sem, hce]; done)); (try walk_nrm))
    (refine gd_ev T.tr (Go.ConcR.mk (.read ⟨x.Wg, 1, none⟩)) rfl (fun w => TRD _ w) rfl (fun _ => stepG_markAt .read (by simp) rfl rfl (by k_ne) rfl H.f_raceRead (x_raceRead_n Tryz.link) (x_raceRead_b Tryz.link) (x_raceRead_x Tryz.link) (x_raceRead_f Tryz.link) (ad := ⟨x.Wg, 1, none⟩) (by simp [Act.eval] <;> rfl)) ?_; (try walk_nrm))
    with_reducible refine gd_c T (G_running _ _) (fun _ => stepG_region_end) ?_
    with_reducible refine gd_c T (G_running _ _) (fun _ => stepG_seq) ?_
    with_reducible refine gd_c T (G_running _ _) (fun _ => stepG_seq) ?_
    ((with_reducible refine gd_c T (G_running _ _) (fun _ => stepG_region) ?_); simp only [List.size_toArray, List.length_cons, List.length_nil, Nat.reduceAdd, Nat.zero_add, List.range, List.range.loop])
    (co_applyP gd_val T rfl rfl (by k_ne) ?_ ?_ ?_; (focus (intro _ K hK; go_simp; (try w_num); exact hK)); (focus (intro _; simp [go_sem, *]; done)); (try walk_nrm))
    (co_applyP gd_val T rfl rfl (by k_ne) ?_ ?_ ?_; (focus (intro _ K hK; go_simp; (try w_num); exact hK)); (focus (intro _; simp [go_sem, *]; done)); (try walk_nrm))
    with_reducible refine gd_c T (G_running _ _) (fun _ => stepG_region_end) ?_
    (refine gd_c T rfl (fun _ => stepG_cond (t := false) rfl) ?_; simp only [if_true, if_false, Bool.false_eq_true, ↓reduceIte])
    with_reducible refine gd_c T (G_running _ _) (fun _ => stepG_skip) ?_
    with_reducible refine gd_c T (G_running _ _) (fun _ => stepG_seq) ?_
    with_reducible refine gd_c T (G_running _ _) (fun _ => stepG_seq) ?_
    ((with_reducible refine gd_c T (G_running _ _) (fun _ => stepG_region) ?_); simp only [List.size_toArray, List.length_cons, List.length_nil, Nat.reduceAdd, Nat.zero_add, List.range, List.range.loop])
    (co_applyP gd_val T rfl rfl (by k_ne) ?_ ?_ ?_; (focus (intro _ K hK; go_simp; (try w_num); exact hK)); (focus (intro _; simp [go_sem, *]; done)); (try walk_nrm))
    (co_applyP gd_val T rfl rfl (by k_ne) ?_ ?_ ?_; (focus (intro _ K hK; go_simp; (try w_num); exact hK)); (focus (intro _; simp [go_sem, *]; done)); (try walk_nrm))
    (co_applyP gd_val T rfl rfl (by k_ne) ?_ ?_ ?_; (focus (intro _ K hK; go_simp; (try w_num); exact hK)); (focus (intro _; simp [go_sem, *]; done)); (try walk_nrm))
    (refine gd_c T rfl (fun _ => stepG_unwanted rfl rfl) ?_; (try walk_nrm))
    (refine gd_c T rfl (fun _ => stepG_unwanted rfl rfl) ?_; (try walk_nrm))
    (co_applyP gd_val T rfl rfl (by k_ne) ?_ ?_ ?_; (focus (intro _ K hK; go_simp; (try w_num); exact hK)); (focus (intro _; simp [go_sem, *]; done)); (try walk_nrm))
    (co_applyP gd_val T rfl rfl (by k_ne) ?_ ?_ ?_; (focus (intro _ K hK; go_simp; (try w_num); exact hK)); (focus (intro _; simp [go_sem, *]; done)); (try walk_nrm))
    (refine gd_c T rfl (fun _ => stepG_unwanted rfl rfl) ?_; (try walk_nrm))
    (refine gd_c T rfl (fun _ => stepG_unwanted rfl rfl) ?_; (try walk_nrm))
    (refine gd_c T rfl (fun _ => stepG_unwanted rfl rfl) ?_; (try walk_nrm))
    (refine gd_c T rfl (fun _ => stepG_unwanted rfl rfl) ?_; (try walk_nrm))
    (co_applyP gd_val T rfl rfl (by k_ne) ?_ ?_ ?_; (focus (intro _ K hK; go_simp; (try w_num); exact hK)); (focus (intro _; simp [go_sem, *]; done)); (try walk_nrm))
    with_reducible refine gd_c T (G_running _ _) (fun _ => stepG_region_end) ?_
    (refine gd_c T rfl (fun _ => stepG_cond (t := false) rfl) ?_; simp only [if_true, if_false, Bool.false_eq_true, ↓reduceIte])
    with_reducible refine gd_c T (G_running _ _) (fun _ => stepG_skip) ?_
    with_reducible refine gd_c T (G_running _ _) (fun _ => stepG_seq) ?_
    with_reducible refine gd_c T (G_running _ _) (fun _ => stepG_seq) ?_
    ((with_reducible refine gd_c T (G_running _ _) (fun _ => stepG_region) ?_); simp only [List.size_toArray, List.length_cons, List.length_nil, Nat.reduceAdd, Nat.zero_add, List.range, List.range.loop])
    (co_applyP gd_val T rfl rfl (by k_ne) ?_ ?_ ?_; (focus (intro _ K hK; go_simp; (try w_num); exact hK)); (focus (intro _; simp [go_sem, *]; done)); (try walk_nrm))
    (co_applyP gd_val T rfl rfl (by k_ne) ?_ ?_ ?_; (focus (intro _ K hK; go_simp; (try w_num); exact hK)); (focus (intro _; simp [go_sem, *]; done)); (try walk_nrm))
    (co_applyP gd_val T rfl rfl (by k_ne) ?_ ?_ ?_; (focus (intro _ K hK; go_simp; (try w_num); exact hK)); (focus (intro _; simp [go_sem, *]; done)); (try walk_nrm))
    (refine gd_c T rfl (fun _ => stepG_unwanted rfl rfl) ?_; (try walk_nrm))
    (refine gd_c T rfl (fun _ => stepG_unwanted rfl rfl) ?_; (try walk_nrm))
    (co_applyP gd_val T rfl rfl (by k_ne) ?_ ?_ ?_; (focus (intro _ K hK; go_simp; (try w_num); exact hK)); (focus (intro _; simp [go_sem, *]; done)); (try walk_nrm))
    with_reducible refine gd_c T (G_running _ _) (fun _ => stepG_region_end) ?_
    (refine gd_c T rfl (fun _ => stepG_cond (t := true) rfl) ?_; simp only [if_true, if_false, Bool.false_eq_true, ↓reduceIte])
    with_reducible refine gd_c T (G_running _ _) (fun _ => stepG_ret') ?_
    (refine gd_unwind_enable (d := 0) T.tr (fun w => TS _ w _ rfl) rfl H.f_enable (x_enable_n Tryz.link) (x_enable_b Tryz.link) (x_enable_x Tryz.link) (x_enable_f Tryz.link) ?_)
    (refine gd_leave0 T rfl rfl Tryz.func23 rfl ?_; (try walk_nrm))
    exact hn.mono (by omega)
  · have e0 : IntKind.u64.wrap (((1 : Nat) : Int) * KK + 4294967296) = 8589934592 := by decide
    have e1 : (((1 + 1 : Nat) : Int)) * KK = 8589934592 := by decide
    rw [stepG_add_atomic rfl rfl (by k_ne) rfl H.f_addU64 (x_addU64_n Tryz.link) (x_addU64_b Tryz.link) (x_addU64_x Tryz.link) .u64 (x_addU64_f Tryz.link) rfl rfl hwg.cellSt (hwg.thaw 0)]
    simp only [e0, goes_go]
    simp only [e1] at hn
    replace hwg := hwg.setSt 8589934592
    refine ⟨⟨fun k hk => Below.heap_setCell _ _ _ _ hk, fun _ => ⟨_, _, hwg⟩, by simp, rfl, rfl, rfl, fun e he => Ph.rdwr_evM he⟩, ?_⟩
    have db0 : deafBehind 1 #[(⟨.cell (stA x.Wg), false, true⟩ : Event), ⟨.cell (stA x.Wg), true, true⟩] = 1 := rfl
    rw [db0]
    clear db0 e0 e1
    replace hwi : LB x ((w.at d₁).setCell (stA x.Wg) (.int .u64 8589934592)) := ⟨⟨_, _, hwg⟩⟩
    walk_nrm
    generalize (w.at d₁).setCell (stA x.Wg) (.int .u64 8589934592) = w at hn hwi ⊢
    clear hwg
    (co_applyP gd_val T rfl rfl (by k_ne) ?_ ?_ ?_; (focus (intro _ K hK; go_simp; (try w_num); exact hK)); (focus (intro _; simp [go_sem, *]; done)); (try walk_nrm))
    with_reducible refine gd_c T (G_running _ _) (fun _ => stepG_region_end) ?_
    with_reducible refine gd_c T (G_running _ _) (fun _ => stepG_ret') ?_
    (refine gd_leave1 T rfl rfl Tryz.func38 rfl ?_; (try walk_nrm))
    (co_applyP gd_val T rfl rfl (by k_ne) ?_ ?_ ?_; (focus (intro _ K hK; go_simp; (try w_num); exact hK)); (focus (intro _; simp [go_sem, *]; done)); (try walk_nrm))
    with_reducible refine gd_c T (G_running _ _) (fun _ => stepG_region_end) ?_
    with_reducible refine gd_c T (G_running _ _) (fun _ => stepG_seq) ?_
    with_reducible refine gd_c T (G_running _ _) (fun _ => stepG_seq) ?_
    ((with_reducible refine gd_c T (G_running _ _) (fun _ => stepG_region) ?_); simp only [List.size_toArray, List.length_cons, List.length_nil, Nat.reduceAdd, Nat.zero_add, List.range, List.range.loop])
    (co_applyP gd_val T rfl rfl (by k_ne) ?_ ?_ ?_; (focus (intro _ K hK; go_simp; (try w_num); exact hK)); (focus (intro _; simp [go_sem, *]; done)); (try walk_nrm))
    (co_applyP gd_val T rfl rfl (by k_ne) ?_ ?_ ?_; (focus (intro _ K hK; go_simp; (try w_num); (simp only [xb0, xb1, xb2, xb3, xb4, xb5]); (try w_num); exact hK)); (focus (intro _; simp [go_sem, *]; done)); (try walk_nrm))
    (co_applyP gd_val T rfl rfl (by k_ne) ?_ ?_ ?_; (focus (intro _ K hK; go_simp; (try w_num); exact hK)); (focus (intro _; simp [go_sem, *]; done)); (try walk_nrm))
    (co_applyP gd_val T rfl rfl (by k_ne) ?_ ?_ ?_; (focus (intro _ K hK; go_simp; (try w_num); exact hK)); (focus (intro _; simp [go_sem, *]; done)); (try walk_nrm))
    (refine gd_c T rfl (fun _ => stepG_unwanted rfl rfl) ?_; (try walk_nrm))
    (refine gd_c T rfl (fun _ => stepG_unwanted rfl rfl) ?_; (try walk_nrm))
    (co_applyP gd_val T rfl rfl (by k_ne) ?_ ?_ ?_; (focus (intro _ K hK; go_simp; (try w_num); exact hK)); (focus (intro _; simp [go_sem, *]; done)); (try walk_nrm))
    with_reducible refine gd_c T (G_running _ _) (fun _ => stepG_region_end) ?_
    (refine gd_c T rfl (fun _ => stepG_cond (t := false) rfl) ?_; simp only [if_true, if_false, Bool.false_eq_true, ↓reduceIte])
    with_reducible refine gd_c T (G_running _ _) (fun _ => stepG_skip) ?_
    with_reducible refine gd_c T (G_running _ _) (fun _ => stepG_seq) ?_
    ((with_reducible refine gd_c T (G_running _ _) (fun _ => stepG_region) ?_); simp only [List.size_toArray, List.length_cons, List.length_nil, Nat.reduceAdd, Nat.zero_add, List.range, List.range.loop])
    (co_applyP gd_val T rfl rfl (by k_ne) ?_ ?_ ?_; (focus (intro _ K hK; go_simp; (try w_num); exact hK)); (focus (intro _; simp [go_sem, *]; done)); (try walk_nrm))
    (co_applyP gd_val T rfl rfl (by k_ne) ?_ ?_ ?_; (focus (intro _ K hK; go_simp; (try w_num); exact hK)); (focus (intro _; simp [go_sem, *]; done)); (try walk_nrm))
    (co_applyP gd_val T rfl rfl (by k_ne) ?_ ?_ ?_; (focus (intro _ K hK; go_simp; (try w_num); exact hK)); (focus (intro _; simp [go_sem, *]; done)); (try walk_nrm))
    (co_applyP gd_val T rfl rfl (by k_ne) ?_ ?_ ?_; (focus (intro _ K hK; go_simp; (try w_num); exact hK)); (focus (intro _; simp [go_sem, *]; done)); (try walk_nrm))
    with_reducible refine gd_c T (G_running _ _) (fun _ => stepG_region_end) ?_
    with_reducible refine gd_c T (G_running _ _) (fun _ => stepG_seq) ?_
    ((with_reducible refine gd_c T (G_running _ _) (fun _ => stepG_region) ?_); simp only [List.size_toArray, List.length_cons, List.length_nil, Nat.reduceAdd, Nat.zero_add, List.range, List.range.loop])
    (co_applyP gd_val T rfl rfl (by k_ne) ?_ ?_ ?_; (focus (intro _ K hK; go_simp; (try w_num); exact hK)); (focus (intro _; simp [go_sem, *]; done)); (try walk_nrm))
    (co_applyP gd_val T rfl rfl (by k_ne) ?_ ?_ ?_; (focus (intro _ K hK; go_simp; (try w_num); (simp only [xb0, xb1, xb2, xb3, xb4, xb5]); (try w_num); exact hK)); (focus (intro _; simp [go_sem, *]; done)); (try walk_nrm))
    (co_applyP gd_val T rfl rfl (by k_ne) ?_ ?_ ?_; (focus (intro _ K hK; go_simp; (try w_num); exact hK)); (focus (intro _; simp [go_sem, *]; done)); (try walk_nrm))
    (co_applyP gd_val T rfl rfl (by k_ne) ?_ ?_ ?_; (focus (intro _ K hK; go_simp; (try w_num); exact hK)); (focus (intro _; simp [go_sem, *]; done)); (try walk_nrm))
    with_reducible refine gd_c T (G_running _ _) (fun _ => stepG_region_end) ?_
    with_reducible refine gd_c T (G_running _ _) (fun _ => stepG_seq) ?_
    with_reducible refine gd_c T (G_running _ _) (fun _ => stepG_seq) ?_
    ((with_reducible refine gd_c T (G_running _ _) (fun _ => stepG_region) ?_); simp only [List.size_toArray, List.length_cons, List.length_nil, Nat.reduceAdd, Nat.zero_add, List.range, List.range.loop])
    (co_applyP gd_val T rfl rfl (by k_ne) ?_ ?_ ?_; (focus (intro _ K hK; go_simp; (try w_num); exact hK)); (focus (intro _; simp [go_sem, *]; done)); (try walk_nrm))
    (co_applyP gd_val T rfl rfl (by k_ne) ?_ ?_ ?_; (focus (intro _ K hK; go_simp; (try w_num); exact hK)); (focus (intro _; simp [go_sem, *]; done)); (try walk_nrm))
    (co_applyP gd_val T rfl rfl (by k_ne) ?_ ?_ ?_; (focus (intro _ K hK; go_simp; (try w_num); exact hK)); (focus (intro _; simp [go_sem, *]; done)); (try walk_nrm))
    (co_applyP gd_val T rfl rfl (by k_ne) ?_ ?_ ?_; (focus (intro _ K hK; go_simp; (try w_num); exact hK)); (focus (intro _; simp [go_sem, *]; done)); (try walk_nrm))
    (co_applyP gd_val T rfl rfl (by k_ne) ?_ ?_ ?_; (focus (intro _ K hK; go_simp; (try w_num); exact hK)); (focus (intro _; simp [go_sem, *]; done)); (try walk_nrm))
    (co_applyP gd_val T rfl rfl (by k_ne) ?_ ?_ ?_; (focus (intro _ K hK; go_simp; (try w_num); exact hK)); (focus (intro _; simp [go_sem, *]; done)); (try walk_nrm))
    (co_applyP gd_val T rfl rfl (by k_ne) ?_ ?_ ?_; (focus (intro _ K hK; go_simp; (try w_num); exact hK)); (focus (intro _; simp [go_sem, *]; done)); (try walk_nrm))
    (co_applyP gd_val T rfl rfl (by k_ne) ?_ ?_ ?_; (focus (intro _ K hK; go_simp; (try w_num); exact hK)); (focus (intro _; simp [go_sem, *]; done)); (try walk_nrm))
    (co_applyP gd_val T rfl rfl (by k_ne) ?_ ?_ ?_; (focus (intro _ K hK; go_simp; (try w_num); exact hK)); (focus (intro _; simp [go_sem, *]; done)); (try walk_nrm))
    (co_applyP gd_val T rfl rfl (by k_ne) ?_ ?_ ?_; (focus (intro _ K hK; go_simp; (try w_num); exact hK)); (focus (intro _; simp [go_sem, *]; done)); (try walk_nrm))
    with_reducible refine gd_c T (G_running _ _) (fun _ => stepG_region_end) ?_
    (refine gd_c T rfl (fun _ => stepG_cond (t := false) rfl) ?_; simp only [if_true, if_false, Bool.false_eq_true, ↓reduceIte])
    with_reducible refine gd_c T (G_running _ _) (fun _ => stepG_skip) ?_
    with_reducible refine gd_c T (G_running _ _) (fun _ => stepG_seq) ?_
    with_reducible refine gd_c T (G_running _ _) (fun _ => stepG_seq) ?_
    ((with_reducible refine gd_c T (G_running _ _) (fun _ => stepG_region) ?_); simp only [List.size_toArray, List.length_cons, List.length_nil, Nat.reduceAdd, Nat.zero_add, List.range, List.range.loop])
    (co_applyP gd_val T rfl rfl (by k_ne) ?_ ?_ ?_; (focus (intro _ K hK; go_simp; (try w_num); exact hK)); (focus (intro _; simp [go_sem, *]; done)); (try walk_nrm))
    (co_applyP gd_val T rfl rfl (by k_ne) ?_ ?_ ?_; (focus (intro _ K hK; go_simp; (try w_num); exact hK)); (focus (intro _; simp [go_sem, *]; done)); (try walk_nrm))
    with_reducible refine gd_c T (G_running _ _) (fun _ => stepG_region_end) ?_
    (refine gd_c T rfl (fun _ => stepG_cond (t := false) rfl) ?_; simp only [if_true, if_false, Bool.false_eq_true, ↓reduceIte])
    with_reducible refine gd_c T (G_running _ _) (fun _ => stepG_skip) ?_
    with_reducible refine gd_c T (G_running _ _) (fun _ => stepG_seq) ?_
    with_reducible refine gd_c T (G_running _ _) (fun _ => stepG_seq) ?_
    ((with_reducible refine gd_c T (G_running _ _) (fun _ => stepG_region) ?_); simp only [List.size_toArray, List.length_cons, List.length_nil, Nat.reduceAdd, Nat.zero_add, List.range, List.range.loop])
    (co_applyP gd_val T rfl rfl (by k_ne) ?_ ?_ ?_; (focus (intro _ K hK; go_simp; (try w_num); exact hK)); (focus (intro _; simp [go_sem, *]; done)); (try walk_nrm))
    (co_applyP gd_val T rfl rfl (by k_ne) ?_ ?_ ?_; (focus (intro _ K hK; go_simp; (try w_num); exact hK)); (focus (intro _; simp [go_sem, *]; done)); (try walk_nrm))
    (co_applyP gd_val T rfl rfl (by k_ne) ?_ ?_ ?_; (focus (intro _ K hK; go_simp; (try w_num); exact hK)); (focus (intro _; simp [go_sem, *]; done)); (try walk_nrm))
    (refine gd_c T rfl (fun _ => stepG_unwanted rfl rfl) ?_; (try walk_nrm))
    (refine gd_c T rfl (fun _ => stepG_unwanted rfl rfl) ?_; (try walk_nrm))
    (co_applyP gd_val T rfl rfl (by k_ne) ?_ ?_ ?_; (focus (intro _ K hK; go_simp; (try w_num); exact hK)); (focus (intro _; simp [go_sem, *]; done)); (try walk_nrm))
    (co_applyP gd_val T rfl rfl (by k_ne) ?_ ?_ ?_; (focus (intro _ K hK; go_simp; (try w_num); exact hK)); (focus (intro _; simp [go_sem, *]; done)); (try walk_nrm))
    (refine gd_c T rfl (fun _ => stepG_unwanted rfl rfl) ?_; (try walk_nrm))
    (refine gd_c T rfl (fun _ => stepG_unwanted rfl rfl) ?_; (try walk_nrm))
    (refine gd_c T rfl (fun _ => stepG_unwanted rfl rfl) ?_; (try walk_nrm))
    (refine gd_c T rfl (fun _ => stepG_unwanted rfl rfl) ?_; (try walk_nrm))
    (co_applyP gd_val T rfl rfl (by k_ne) ?_ ?_ ?_; (focus (intro _ K hK; go_simp; (try w_num); exact hK)); (focus (intro _; simp [go_sem, *]; done)); (try walk_nrm))
    with_reducible refine gd_c T (G_running _ _) (fun _ => stepG_region_end) ?_
    (refine gd_c T rfl (fun _ => stepG_cond (t := false) rfl) ?_; simp only [if_true, if_false, Bool.false_eq_true, ↓reduceIte])
    with_reducible refine gd_c T (G_running _ _) (fun _ => stepG_skip) ?_
    with_reducible refine gd_c T (G_running _ _) (fun _ => stepG_seq) ?_
    with_reducible refine gd_c T (G_running _ _) (fun _ => stepG_seq) ?_
    ((with_reducible refine gd_c T (G_running _ _) (fun _ => stepG_region) ?_); simp only [List.size_toArray, List.length_cons, List.length_nil, Nat.reduceAdd, Nat.zero_add, List.range, List.range.loop])
    (co_applyP gd_val T rfl rfl (by k_ne) ?_ ?_ ?_; (focus (intro _ K hK; go_simp; (try w_num); exact hK)); (focus (intro _; simp [go_sem, *]; done)); (try walk_nrm))
    (co_applyP gd_val T rfl rfl (by k_ne) ?_ ?_ ?_; (focus (intro _ K hK; go_simp; (try w_num); exact hK)); (focus (intro _; simp [go_sem, *]; done)); (try walk_nrm))
    (co_applyP gd_val T rfl rfl (by k_ne) ?_ ?_ ?_; (focus (intro _ K hK; go_simp; (try w_num); exact hK)); (focus (intro _; simp [go_sem, *]; done)); (try walk_nrm))
    (refine gd_c T rfl (fun _ => stepG_unwanted rfl rfl) ?_; (try walk_nrm))
    (refine gd_c T rfl (fun _ => stepG_unwanted rfl rfl) ?_; (try walk_nrm))
    (co_applyP gd_val T rfl rfl (by k_ne) ?_ ?_ ?_; (focus (intro _ K hK; go_simp; (try w_num); exact hK)); (focus (intro _; simp [go_sem, *]; done)); (try walk_nrm))
    with_reducible refine gd_c T (G_running _ _) (fun _ => stepG_region_end) ?_
    (refine gd_c T rfl (fun _ => stepG_cond (t := true) rfl) ?_; simp only [if_true, if_false, Bool.false_eq_true, ↓reduceIte])
    with_reducible refine gd_c T (G_running _ _) (fun _ => stepG_ret') ?_
    (refine gd_unwind_enable (d := 0) T.tr (fun w => TS _ w _ rfl) rfl H.f_enable (x_enable_n Tryz.link) (x_enable_b Tryz.link) (x_enable_x Tryz.link) (x_enable_f Tryz.link) ?_)
    (refine gd_leave0 T rfl rfl Tryz.func23 rfl ?_; (try walk_nrm))
    exact hn.mono (by omega)
  · have e0 : IntKind.u64.wrap (((2 : Nat) : Int) * KK + 4294967296) = 12884901888 := by decide
    have e1 : (((2 + 1 : Nat) : Int)) * KK = 12884901888 := by decide
    rw [stepG_add_atomic rfl rfl (by k_ne) rfl H.f_addU64 (x_addU64_n Tryz.link) (x_addU64_b Tryz.link) (x_addU64_x Tryz.link) .u64 (x_addU64_f Tryz.link) rfl rfl hwg.cellSt (hwg.thaw 0)]
    simp only [e0, goes_go]
    simp only [e1] at hn
    replace hwg := hwg.setSt 12884901888
    refine ⟨⟨fun k hk => Below.heap_setCell _ _ _ _ hk, fun _ => ⟨_, _, hwg⟩, by simp, rfl, rfl, rfl, fun e he => Ph.rdwr_evM he⟩, ?_⟩
    have db0 : deafBehind 1 #[(⟨.cell (stA x.Wg), false, true⟩ : Event), ⟨.cell (stA x.Wg), true, true⟩] = 1 := rfl
    rw [db0]
    clear db0 e0 e1
    replace hwi : LB x ((w.at d₁).setCell (stA x.Wg) (.int .u64 12884901888)) := ⟨⟨_, _, hwg⟩⟩
    walk_nrm
    generalize (w.at d₁).setCell (stA x.Wg) (.int .u64 12884901888) = w at hn hwi ⊢
    clear hwg
    (co_applyP gd_val T rfl rfl (by k_ne) ?_ ?_ ?_; (focus (intro _ K hK; go_simp; (try w_num); exact hK)); (focus (intro _; simp [go_sem, *]; done)); (try walk_nrm))
    with_reducible refine gd_c T (G_running _ _) (fun _ => stepG_region_end) ?_
    with_reducible refine gd_c T (G_running _ _) (fun _ => stepG_ret') ?_
    (refine gd_leave1 T rfl rfl Tryz.func38 rfl ?_; (try walk_nrm))
    (co_applyP gd_val T rfl rfl (by k_ne) ?_ ?_ ?_; (focus (intro _ K hK; go_simp; (try w_num); exact hK)); (focus (intro _; simp [go_sem, *]; done)); (try walk_nrm))
    with_reducible refine gd_c T (G_running _ _) (fun _ => stepG_region_end) ?_
    with_reducible refine gd_c T (G_running _ _) (fun _ => stepG_seq) ?_
    with_reducible refine gd_c T (G_running _ _) (fun _ => stepG_seq) ?_
    ((with_reducible refine gd_c T (G_running _ _) (fun _ => stepG_region) ?_); simp only [List.size_toArray, List.length_cons, List.length_nil, Nat.reduceAdd, Nat.zero_add, List.range, List.range.loop])
    (co_applyP gd_val T rfl rfl (by k_ne) ?_ ?_ ?_; (focus (intro _ K hK; go_simp; (try w_num); exact hK)); (focus (intro _; simp [go_sem, *]; done)); (try walk_nrm))
    (co_applyP gd_val T rfl rfl (by k_ne) ?_ ?_ ?_; (focus (intro _ K hK; go_simp; (try w_num); (simp only [xb0, xb1, xb2, xb3, xb4, xb5]); (try w_num); exact hK)); (focus (intro _; simp [go_sem, *]; done)); (try walk_nrm))
    (co_applyP gd_val T rfl rfl (by k_ne) ?_ ?_ ?_; (focus (intro _ K hK; go_simp; (try w_num); exact hK)); (focus (intro _; simp [go_sem, *]; done)); (try walk_nrm))
    (co_applyP gd_val T rfl rfl (by k_ne) ?_ ?_ ?_; (focus (intro _ K hK; go_simp; (try w_num); exact hK)); (focus (intro _; simp [go_sem, *]; done)); (try walk_nrm))
    (refine gd_c T rfl (fun _ => stepG_unwanted rfl rfl) ?_; (try walk_nrm))
    (refine gd_c T rfl (fun _ => stepG_unwanted rfl rfl) ?_; (try walk_nrm))
    (co_applyP gd_val T rfl rfl (by k_ne) ?_ ?_ ?_; (focus (intro _ K hK; go_simp; (try w_num); exact hK)); (focus (intro _; simp [go_sem, *]; done)); (try walk_nrm))
    with_reducible refine gd_c T (G_running _ _) (fun _ => stepG_region_end) ?_
    (refine gd_c T rfl (fun _ => stepG_cond (t := false) rfl) ?_; simp only [if_true, if_false, Bool.false_eq_true, ↓reduceIte])
    with_reducible refine gd_c T (G_running _ _) (fun _ => stepG_skip) ?_
    with_reducible refine gd_c T (G_running _ _) (fun _ => stepG_seq) ?_
    ((with_reducible refine gd_c T (G_running _ _) (fun _ => stepG_region) ?_); simp only [List.size_toArray, List.length_cons, List.length_nil, Nat.reduceAdd, Nat.zero_add, List.range, List.range.loop])
    (co_applyP gd_val T rfl rfl (by k_ne) ?_ ?_ ?_; (focus (intro _ K hK; go_simp; (try w_num); exact hK)); (focus (intro _; simp [go_sem, *]; done)); (try walk_nrm))
    (co_applyP gd_val T rfl rfl (by k_ne) ?_ ?_ ?_; (focus (intro _ K hK; go_simp; (try w_num); exact hK)); (focus (intro _; simp [go_sem, *]; done)); (try walk_nrm))
    (co_applyP gd_val T rfl rfl (by k_ne) ?_ ?_ ?_; (focus (intro _ K hK; go_simp; (try w_num); exact hK)); (focus (intro _; simp [go_sem, *]; done)); (try walk_nrm))
    (co_applyP gd_val T rfl rfl (by k_ne) ?_ ?_ ?_; (focus (intro _ K hK; go_simp; (try w_num); exact hK)); (focus (intro _; simp [go_sem, *]; done)); (try walk_nrm))
    with_reducible refine gd_c T (G_running _ _) (fun _ => stepG_region_end) ?_
    with_reducible refine gd_c T (G_running _ _) (fun _ => stepG_seq) ?_
    ((with_reducible refine gd_c T (G_running _ _) (fun _ => stepG_region) ?_); simp only [List.size_toArray, List.length_cons, List.length_nil, Nat.reduceAdd, Nat.zero_add, List.range, List.range.loop])
    (co_applyP gd_val T rfl rfl (by k_ne) ?_ ?_ ?_; (focus (intro _ K hK; go_simp; (try w_num); exact hK)); (focus (intro _; simp [go_sem, *]; done)); (try walk_nrm))
    (co_applyP gd_val T rfl rfl (by k_ne) ?_ ?_ ?_; (focus (intro _ K hK; go_simp; (try w_num); (simp only [xb0, xb1, xb2, xb3, xb4, xb5]); (try w_num); exact hK)); (focus (intro _; simp [go_sem, *]; done)); (try walk_nrm))
    (co_applyP gd_val T rfl rfl (by k_ne) ?_ ?_ ?_; (focus (intro _ K hK; go_simp; (try w_num); exact hK)); (focus (intro _; simp [go_sem, *]; done)); (try walk_nrm))
    (co_applyP gd_val T rfl rfl (by k_ne) ?_ ?_ ?_; (focus (intro _ K hK; go_simp; (try w_num); exact hK)); (focus (intro _; simp [go_sem, *]; done)); (try walk_nrm))
    with_reducible refine gd_c T (G_running _ _) (fun _ => stepG_region_end) ?_
    with_reducible refine gd_c T (G_running _ _) (fun _ => stepG_seq) ?_
    with_reducible refine gd_c T (G_running _ _) (fun _ => stepG_seq) ?_
    ((with_reducible refine gd_c T (G_running _ _) (fun _ => stepG_region) ?_); simp only [List.size_toArray, List.length_cons, List.length_nil, Nat.reduceAdd, Nat.zero_add, List.range, List.range.loop])
    (co_applyP gd_val T rfl rfl (by k_ne) ?_ ?_ ?_; (focus (intro _ K hK; go_simp; (try w_num); exact hK)); (focus (intro _; simp [go_sem, *]; done)); (try walk_nrm))
    (co_applyP gd_val T rfl rfl (by k_ne) ?_ ?_ ?_; (focus (intro _ K hK; go_simp; (try w_num); exact hK)); (focus (intro _; simp [go_sem, *]; done)); (try walk_nrm))
    (co_applyP gd_val T rfl rfl (by k_ne) ?_ ?_ ?_; (focus (intro _ K hK; go_simp; (try w_num); exact hK)); (focus (intro _; simp [go_sem, *]; done)); (try walk_nrm))
    (co_applyP gd_val T rfl rfl (by k_ne) ?_ ?_ ?_; (focus (intro _ K hK; go_simp; (try w_num); exact hK)); (focus (intro _; simp [go_sem, *]; done)); (try walk_nrm))
    (co_applyP gd_val T rfl rfl (by k_ne) ?_ ?_ ?_; (focus (intro _ K hK; go_simp; (try w_num); exact hK)); (focus (intro _; simp [go_sem, *]; done)); (try walk_nrm))
    (co_applyP gd_val T rfl rfl (by k_ne) ?_ ?_ ?_; (focus (intro _ K hK; go_simp; (try w_num); exact hK)); (focus (intro _; simp [go_sem, *]; done)); (try walk_nrm))
    (co_applyP gd_val T rfl rfl (by k_ne) ?_ ?_ ?_; (focus (intro _ K hK; go_simp; (try w_num); exact hK)); (focus (intro _; simp [go_sem, *]; done)); (try walk_nrm))
    (co_applyP gd_val T rfl rfl (by k_ne) ?_ ?_ ?_; (focus (intro _ K hK; go_simp; (try w_num); exact hK)); (focus (intro _; simp [go_sem, *]; done)); (try walk_nrm))
    (co_applyP gd_val T rfl rfl (by k_ne) ?_ ?_ ?_; (focus (intro _ K hK; go_simp; (try w_num); exact hK)); (focus (intro _; simp [go_sem, *]; done)); (try walk_nrm))
    (co_applyP gd_val T rfl rfl (by k_ne) ?_ ?_ ?_; (focus (intro _ K hK; go_simp; (try w_num); exact hK)); (focus (intro _; simp [go_sem, *]; done)); (try walk_nrm))
    with_reducible refine gd_c T (G_running _ _) (fun _ => stepG_region_end) ?_
    (refine gd_c T rfl (fun _ => stepG_cond (t := false) rfl) ?_; simp only [if_true, if_false, Bool.false_eq_true, ↓reduceIte])
    with_reducible refine gd_c T (G_running _ _) (fun _ => stepG_skip) ?_
    with_reducible refine gd_c T (G_running _ _) (fun _ => stepG_seq) ?_
    with_reducible refine gd_c T (G_running _ _) (fun _ => stepG_seq) ?_
    ((with_reducible refine gd_c T (G_running _ _) (fun _ => stepG_region) ?_); simp only [List.size_toArray, List.length_cons, List.length_nil, Nat.reduceAdd, Nat.zero_add, List.range, List.range.loop])
    (co_applyP gd_val T rfl rfl (by k_ne) ?_ ?_ ?_; (focus (intro _ K hK; go_simp; (try w_num); exact hK)); (focus (intro _; simp [go_sem, *]; done)); (try walk_nrm))
    (co_applyP gd_val T rfl rfl (by k_ne) ?_ ?_ ?_; (focus (intro _ K hK; go_simp; (try w_num); exact hK)); (focus (intro _; simp [go_sem, *]; done)); (try walk_nrm))
    with_reducible refine gd_c T (G_running _ _) (fun _ => stepG_region_end) ?_
    (refine gd_c T rfl (fun _ => stepG_cond (t := false) rfl) ?_; simp only [if_true, if_false, Bool.false_eq_true, ↓reduceIte])
    with_reducible refine gd_c T (G_running _ _) (fun _ => stepG_skip) ?_
    with_reducible refine gd_c T (G_running _ _) (fun _ => stepG_seq) ?_
    with_reducible refine gd_c T (G_running _ _) (fun _ => stepG_seq) ?_
    ((with_reducible refine gd_c T (G_running _ _) (fun _ => stepG_region) ?_); simp only [List.size_toArray, List.length_cons, List.length_nil, Nat.reduceAdd, Nat.zero_add, List.range, List.range.loop])
    (co_applyP gd_val T rfl rfl (by k_ne) ?_ ?_ ?_; (focus (intro _ K hK; go_simp; (try w_num); exact hK)); (focus (intro _; simp [go_sem, *]; done)); (try walk_nrm))
    (co_applyP gd_val T rfl rfl (by k_ne) ?_ ?_ ?_; (focus (intro _ K hK; go_simp; (try w_num); exact hK)); (focus (intro _; simp [go_sem, *]; done)); (try walk_nrm))
    (co_applyP gd_val T rfl rfl (by k_ne) ?_ ?_ ?_; (focus (intro _ K hK; go_simp; (try w_num); exact hK)); (focus (intro _; simp [go_sem, *]; done)); (try walk_nrm))
    (refine gd_c T rfl (fun _ => stepG_unwanted rfl rfl) ?_; (try walk_nrm))
    (refine gd_c T rfl (fun _ => stepG_unwanted rfl rfl) ?_; (try walk_nrm))
    (co_applyP gd_val T rfl rfl (by k_ne) ?_ ?_ ?_; (focus (intro _ K hK; go_simp; (try w_num); exact hK)); (focus (intro _; simp [go_sem, *]; done)); (try walk_nrm))
    (co_applyP gd_val T rfl rfl (by k_ne) ?_ ?_ ?_; (focus (intro _ K hK; go_simp; (try w_num); exact hK)); (focus (intro _; simp [go_sem, *]; done)); (try walk_nrm))
    (refine gd_c T rfl (fun _ => stepG_unwanted rfl rfl) ?_; (try walk_nrm))
    (refine gd_c T rfl (fun _ => stepG_unwanted rfl rfl) ?_; (try walk_nrm))
    (refine gd_c T rfl (fun _ => stepG_unwanted rfl rfl) ?_; (try walk_nrm))
    (refine gd_c T rfl (fun _ => stepG_unwanted rfl rfl) ?_; (try walk_nrm))
    (co_applyP gd_val T rfl rfl (by k_ne) ?_ ?_ ?_; (focus (intro _ K hK; go_simp; (try w_num); exact hK)); (focus (intro _; simp [go_sem, *]; done)); (try walk_nrm))
    with_reducible refine gd_c T (G_running _ _) (fun _ => stepG_region_end) ?_
    (refine gd_c T rfl (fun _ => stepG_cond (t := false) rfl) ?_; simp only [if_true, if_false, Bool.false_eq_true, ↓reduceIte])
    with_reducible refine gd_c T (G_running _ _) (fun _ => stepG_skip) ?_
    with_reducible refine gd_c T (G_running _ _) (fun _ => stepG_seq) ?_
    with_reducible refine gd_c T (G_running _ _) (fun _ => stepG_seq) ?_
    ((with_reducible refine gd_c T (G_running _ _) (fun _ => stepG_region) ?_); simp only [List.size_toArray, List.length_cons, List.length_nil, Nat.reduceAdd, Nat.zero_add, List.range, List.range.loop])
    (co_applyP gd_val T rfl rfl (by k_ne) ?_ ?_ ?_; (focus (intro _ K hK; go_simp; (try w_num); exact hK)); (focus (intro _; simp [go_sem, *]; done)); (try walk_nrm))
    (co_applyP gd_val T rfl rfl (by k_ne) ?_ ?_ ?_; (focus (intro _ K hK; go_simp; (try w_num); exact hK)); (focus (intro _; simp [go_sem, *]; done)); (try walk_nrm))
    (co_applyP gd_val T rfl rfl (by k_ne) ?_ ?_ ?_; (focus (intro _ K hK; go_simp; (try w_num); exact hK)); (focus (intro _; simp [go_sem, *]; done)); (try walk_nrm))
    (refine gd_c T rfl (fun _ => stepG_unwanted rfl rfl) ?_; (try walk_nrm))
    (refine gd_c T rfl (fun _ => stepG_unwanted rfl rfl) ?_; (try walk_nrm))
    (co_applyP gd_val T rfl rfl (by k_ne) ?_ ?_ ?_; (focus (intro _ K hK; go_simp; (try w_num); exact hK)); (focus (intro _; simp [go_sem, *]; done)); (try walk_nrm))
    with_reducible refine gd_c T (G_running _ _) (fun _ => stepG_region_end) ?_
    (refine gd_c T rfl (fun _ => stepG_cond (t := true) rfl) ?_; simp only [if_true, if_false, Bool.false_eq_true, ↓reduceIte])
    with_reducible refine gd_c T (G_running _ _) (fun _ => stepG_ret') ?_
    (refine gd_unwind_enable (d := 0) T.tr (fun w => TS _ w _ rfl) rfl H.f_enable (x_enable_n Tryz.link) (x_enable_b Tryz.link) (x_enable_x Tryz.link) (x_enable_f Tryz.link) ?_)
    (refine gd_leave0 T rfl rfl Tryz.func23 rfl ?_; (try walk_nrm))
    exact hn.mono (by omega)
end
end Go.Proofs.YtacimedkchjfnaaGreat
end

section
/-! A worker: to its select. -/
namespace Go.Proofs.YtacimedkchjfnaaGreat
set_option linter.unusedSimpArgs false
set_option linter.unusedVariables false
set_option maxRecDepth 100000
open Go.Conc Go.RowKit Go.Conc.Lib Go.ConcR.Gen
open Go.ConcR (KK wgBlock WgAt stA smA rd wr deafBehind_cons deafBehind_one)
open Go.ConcN (WgLive)
noncomputable def body24 : Code := Tryz.f24.body.getD .skip
noncomputable def B24 : Code := match Tryz.f24.body.getD .skip with
  | .seq _ (.block _ (.loop c)) => c
  | _ => .skip
noncomputable def ops24 : Array Oper := match B24 with
  | .block _ (.seq _ (.seq (.region _ ops _) _)) => ops
  | _ => #[]
noncomputable def K24 : Code := match B24 with
  | .block _ (.seq _ (.seq _ c)) => c
  | _ => .skip
noncomputable def bot : Frame := { (default : Frame) with fn := Tryz.prog.funcs.size, defers := [], mode := .panicking [goexitEntry] }
/-- What the boxes hold. -/
structure BX (x : Ph) (bN bO bJ bE : Nat) (nv : Int) : Prop where
  n : x.RdB bN
  o : x.RdB bO
  j : x.RdB bJ
  e : x.RdB bE
  cn : x.W0.cell? ⟨bN, 0, none⟩ = some (.int .i64 nv)
  co : x.W0.cell? ⟨bO, 0, none⟩ = some (.slice (some ⟨x.C, 0, none⟩) x.N x.N)
  cj : x.W0.cell? ⟨bJ, 0, none⟩ = some (.chan (some x.J))
  ce : x.W0.cell? ⟨bE, 0, none⟩ = some (.chan (some x.E))
theorem cell_fix {x : Ph} {w : World} (h : x.WI w) {b : Nat} (hb : x.RdB b) {v : Value} (hv : x.W0.cell? ⟨b, 0, none⟩ = some v) : w.cell? ⟨b, 0, none⟩ = some v := by
  have e := h.fix b hb.2
  simp only [World.cell?, e] at hv ⊢
  exact hv
/-- The deferred call of a go statement's function. -/
def call24 (x : Ph) (bN bO bJ bE : Nat) : Deferred := { target := .fn (.func 24) #[.pointer (some ⟨x.Wg, 0, none⟩), .pointer (some ⟨bJ, 0, none⟩), .pointer (some ⟨bN, 0, none⟩), .pointer (some ⟨bO, 0, none⟩), .pointer (some ⟨bE, 0, none⟩)], args := #[] }
/-- The slots of a worker. -/
structure T24 (x : Ph) (bN bO bJ bE : Nat) (T : Array Value) : Prop where
  size : T.size = 21
  t0 : T[0]? = some (.pointer (some ⟨x.Wg, 0, none⟩))
  t1 : T[1]? = some (.pointer (some ⟨bJ, 0, none⟩))
  t2 : T[2]? = some (.pointer (some ⟨bN, 0, none⟩))
  t3 : T[3]? = some (.pointer (some ⟨bO, 0, none⟩))
  t4 : T[4]? = some (.pointer (some ⟨bE, 0, none⟩))
abbrev ds24 (x : Ph) : List Deferred := [dcall 25 #[.pointer (some ⟨x.Wg, 0, none⟩)]]
/-- A worker at its select. -/
def AnchW (x : Ph) (bN bO bJ bE : Nat) (g : Goroutine) : Prop :=
  ∃ (T : Array Value) (o : Option (Array CommCase × CommShape)), T24 x bN bO bJ bE T ∧ T[6]? = some (.chan (some x.J)) ∧ T[7]? = some (.chan (some x.E)) ∧
    g = { G ((baseD 24).at ⟨T, ds24 x⟩ [.inRegion ops24 [0, 1, 2, 3], .code K24, .inBlock 1, .inLoop B24, .inBlock 0]) [bot] with offers := o }
theorem arr21 (T : Array Value) (h : T.size = 21) : ∃ v0 v1 v2 v3 v4 v5 v6 v7 v8 v9 v10 v11 v12 v13 v14 v15 v16 v17 v18 v19 v20 : Value, T = #[v0, v1, v2, v3, v4, v5, v6, v7, v8, v9, v10, v11, v12, v13, v14, v15, v16, v17, v18, v19, v20] := by
  obtain ⟨l⟩ := T
  simp only [List.size_toArray] at h
  rcases l with _ | ⟨v0, l⟩
  · simp at h
  rcases l with _ | ⟨v1, l⟩
  · simp at h
  rcases l with _ | ⟨v2, l⟩
  · simp at h
  rcases l with _ | ⟨v3, l⟩
  · simp at h
  rcases l with _ | ⟨v4, l⟩
  · simp at h
  rcases l with _ | ⟨v5, l⟩
  · simp at h
  rcases l with _ | ⟨v6, l⟩
  · simp at h
  rcases l with _ | ⟨v7, l⟩
  · simp at h
  rcases l with _ | ⟨v8, l⟩
  · simp at h
  rcases l with _ | ⟨v9, l⟩
  · simp at h
  rcases l with _ | ⟨v10, l⟩
  · simp at h
  rcases l with _ | ⟨v11, l⟩
  · simp at h
  rcases l with _ | ⟨v12, l⟩
  · simp at h
  rcases l with _ | ⟨v13, l⟩
  · simp at h
  rcases l with _ | ⟨v14, l⟩
  · simp at h
  rcases l with _ | ⟨v15, l⟩
  · simp at h
  rcases l with _ | ⟨v16, l⟩
  · simp at h
  rcases l with _ | ⟨v17, l⟩
  · simp at h
  rcases l with _ | ⟨v18, l⟩
  · simp at h
  rcases l with _ | ⟨v19, l⟩
  · simp at h
  rcases l with _ | ⟨v20, l⟩
  · simp at h
  rcases l with _ | ⟨x, l⟩
  · exact ⟨v0, v1, v2, v3, v4, v5, v6, v7, v8, v9, v10, v11, v12, v13, v14, v15, v16, v17, v18, v19, v20, rfl⟩
  · simp at h
section
variable {x : Ph} {bN bO bJ bE : Nat} {nv : Int}
theorem evK_read {b : Nat} (h : x.RdB b) (i : Nat) {o q : Option Nat} : x.EvK o q ⟨.cell ⟨b, i, none⟩, false, false⟩ := ⟨_, _, rfl, .inl ⟨rfl, h⟩⟩
set_option maxHeartbeats 4000000 in
/-- From the loop's head to the select. -/
theorem head24 (B : BX x bN bO bJ bE nv) (T₀ : Array Value) (hT : T24 x bN bO bJ bE T₀) {R : World → World → Prop} {D : Nat → World → World → Array Event → Prop} {Stop : Nat → Goroutine → World → Prop} {I : World → Prop}
    (T : GT R D) (hI : ∀ w w₁, R w w₁ → I w → I w₁) (hIW : ∀ w, I w → x.WI w) (hD : ∀ d w es, (∀ e ∈ es, x.EvK none none e) → D d w w es)
    (hS : ∀ g w, AnchW x bN bO bJ bE g → I w → Stop 0 g w) (w : World) (hIw : I w) :
    GD Tryz.prog false R D Stop 40 0 (G ((baseD 24).at ⟨T₀, ds24 x⟩ [.code B24, .inLoop B24, .inBlock 0]) [bot]) w := by
  obtain ⟨v0, v1, v2, v3, v4, v5, v6, v7, v8, v9, v10, v11, v12, v13, v14, v15, v16, v17, v18, v19, v20, rfl⟩ := arr21 T₀ hT.size
  obtain ⟨_, e0, e1, e2, e3, e4⟩ := id hT
  simp only [List.getElem?_toArray, List.getElem?_cons_succ, List.getElem?_cons_zero, Option.some.injEq] at e0 e1 e2 e3 e4
  subst e0 e1 e2 e3 e4
  have l24 : (Tryz.prog.funcs[(baseD 24).fn]?).any (·.norace) = false := by kernel_rfl
  simp only [B24, Tryz.f24, Option.getD_some]
  with_reducible refine gd_c T (G_running _ _) (fun _ => stepG_block) ?_
  with_reducible refine gd_c T (G_running _ _) (fun _ => stepG_seq) ?_
  with_reducible refine gd_c T (G_running _ _) (fun _ => stepG_seq) ?_
  ((with_reducible refine gd_c T (G_running _ _) (fun _ => stepG_region) ?_); simp only [List.size_toArray, List.length_cons, List.length_nil, Nat.reduceAdd, Nat.zero_add, List.range, List.range.loop])
  (refine gd_op rfl rfl (by k_ne) (fun w₁ h₁ K hK => ?_); replace hIw := hI _ _ h₁ hIw; have hc := cell_fix (hIW _ hIw) B.j B.cj; go_simp; refine hK _ _ (hD _ _ _ (fun e he => ?_)) (deafBehind_plain (fun e he => ?_)) ?_; (focus (have hm := mem_listed he; simp [go_sem, hc] at hm; subst hm; exact evK_read B.j 0)); (focus (have hm := mem_listed he; simp [go_sem, hc] at hm; subst hm; exact ⟨_, _, _, rfl⟩)); clear hK K hc h₁; (try walk_nrm))
  with_reducible refine gd_c T (G_running _ _) (fun _ => stepG_region_end) ?_
  ((with_reducible refine gd_c T (G_running _ _) (fun _ => stepG_region) ?_); simp only [List.size_toArray, List.length_cons, List.length_nil, Nat.reduceAdd, Nat.zero_add, List.range, List.range.loop])
  (refine gd_op rfl rfl (by k_ne) (fun w₁ h₁ K hK => ?_); replace hIw := hI _ _ h₁ hIw; have hc := cell_fix (hIW _ hIw) B.e B.ce; go_simp; refine hK _ _ (hD _ _ _ (fun e he => ?_)) (deafBehind_plain (fun e he => ?_)) ?_; (focus (have hm := mem_listed he; simp [go_sem, hc] at hm; subst hm; exact evK_read B.e 0)); (focus (have hm := mem_listed he; simp [go_sem, hc] at hm; subst hm; exact ⟨_, _, _, rfl⟩)); clear hK K hc h₁; (try walk_nrm))
  with_reducible refine gd_c T (G_running _ _) (fun _ => stepG_region_end) ?_
  with_reducible refine gd_c T (G_running _ _) (fun _ => stepG_seq) ?_
  ((with_reducible refine gd_c T (G_running _ _) (fun _ => stepG_region) ?_); simp only [List.size_toArray, List.length_cons, List.length_nil, Nat.reduceAdd, Nat.zero_add, List.range, List.range.loop])
  refine GD.stop (fun w₁ h₁ => hS _ _ ⟨_, none, ⟨rfl, rfl, rfl, rfl, rfl, rfl⟩, rfl, rfl, rfl⟩ (hI _ _ h₁ hIw))
end
end Go.Proofs.YtacimedkchjfnaaGreat
end
