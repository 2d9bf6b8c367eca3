/- Part 4 of the proof: C2. -/
import Derived.Test.YtacimedkchjfnaaGreatV03
section
/-! A worker's Done. -/
namespace Go.Proofs.YtacimedkchjfnaaGreat
set_option linter.unusedSimpArgs false
set_option linter.unusedVariables false
set_option maxRecDepth 100000
open Go.Conc Go.RowKit Go.Conc.Lib Go.ConcR.Gen
open Go.ConcR (KK wgBlock WgAt stA smA rd wr deafBehind_cons deafBehind_one)
open Go.ConcN (WgLive)
theorem cn11 : (Tryz.f11.name == "runtime.NumGoroutine") = false := by kernel_rfl
theorem cn13 : (Tryz.f13.name == "runtime.NumGoroutine") = false := by kernel_rfl
theorem cn15 : (Tryz.f15.name == "runtime.NumGoroutine") = false := by kernel_rfl
theorem cn16 : (Tryz.f16.name == "runtime.NumGoroutine") = false := by kernel_rfl
theorem cn23 : (Tryz.f23.name == "runtime.NumGoroutine") = false := by kernel_rfl
theorem cn25 : (Tryz.f25.name == "runtime.NumGoroutine") = false := by kernel_rfl
theorem cn26 : (Tryz.f26.name == "runtime.NumGoroutine") = false := by kernel_rfl
theorem cn37 : (Tryz.f37.name == "runtime.NumGoroutine") = false := by kernel_rfl
theorem cn38 : (Tryz.f38.name == "runtime.NumGoroutine") = false := by kernel_rfl
theorem cn40 : (Tryz.f40.name == "runtime.NumGoroutine") = false := by kernel_rfl
theorem cn41 : (Tryz.f41.name == "runtime.NumGoroutine") = false := by kernel_rfl
theorem cn46 : (Tryz.f46.name == "runtime.NumGoroutine") = false := by kernel_rfl
theorem lcell0 {ty : TypeId} {Wg : Nat} {w : World} (h : WgLive ty Wg w) : ∃ v, w.cell? ⟨Wg, 0, none⟩ = some v := let ⟨_, _, x⟩ := h; ⟨_, x.cellSt⟩
theorem lcell1 {ty : TypeId} {Wg : Nat} {w : World} (h : WgLive ty Wg w) : ∃ v, w.cell? ⟨Wg, 1, none⟩ = some v := let ⟨_, _, x⟩ := h; ⟨_, x.cellSm⟩
theorem tK (x : Ph) : GT (x.RK none none) x.D0 := ⟨Ph.rk_tr, fun d w => ⟨rfl, fun e he => by simp at he⟩⟩
theorem tW (x : Ph) : GT (x.RK none none) Ph.DW := ⟨Ph.rk_tr, fun d w => ⟨rfl, fun e he => by simp at he⟩⟩
theorem tL (x : Ph) : GT x.RL x.DL := ⟨Ph.rl_tr, fun d w => ⟨fun _ _ => rfl, id, rfl, rfl, rfl, rfl, fun h => absurd rfl h, fun e he => by simp at he⟩⟩
section
variable {x : Ph} (hty : x.ty = 61)
set_option maxHeartbeats 4000000 in
theorem done_walk {c : Frame} {cs : List Frame} {qt : Nat} (hcm : c.mode = .returning) (hT : QuitsD Tryz.prog qt 0 (G c cs)) (w : World) (hwi : x.WI w) :
    GD Tryz.prog false (x.RK none none) x.D0 (x.AtR0 Tryz.prog) 60 0 (G ((baseD 25).at ⟨#[.pointer (some ⟨x.Wg, 0, none⟩), undef, undef, undef], []⟩ [.code (Tryz.f25.body.getD .skip)]) (c :: cs)) w := by
  have H := Tryz.wgLib
  have T := tK x
  simp only [Tryz.f25, Option.getD_some]
  ((with_reducible refine gd_c T (G_running _ _) (fun _ => stepG_region) ?_); simp only [List.size_toArray, List.length_cons, List.length_nil, Nat.reduceAdd, Nat.zero_add, List.range, List.range.loop])
  (co_applyP gd_val T rfl rfl (by k_ne) ?_ ?_ ?_; (focus (intro _ K hK; go_simp; (try w_num); exact hK)); (focus (intro _; simp [go_sem, *]; done)); (try walk_nrm))
  (refine gd_call T rfl rfl (by k_ne) rfl Tryz.func23 cn23 rfl ?_; walk_nrmf Tryz.f23)
  with_reducible refine gd_c T (G_running _ _) (fun _ => stepG_seq) ?_
  (refine gd_c T rfl (fun _ => stepG_cond (t := true) rfl) ?_; simp only [if_true, if_false, Bool.false_eq_true, ↓reduceIte])
  with_reducible refine gd_c T (G_running _ _) (fun _ => stepG_seq) ?_
  with_reducible refine gd_c T (G_running _ _) (fun _ => stepG_seq) ?_
  ((with_reducible refine gd_c T (G_running _ _) (fun _ => stepG_region) ?_); simp only [List.size_toArray, List.length_cons, List.length_nil, Nat.reduceAdd, Nat.zero_add, List.range, List.range.loop])
  (co_applyP gd_val T rfl rfl (by k_ne) ?_ ?_ ?_; (focus (intro _ K hK; go_simp; (try w_num); exact hK)); (focus (intro _; simp [go_sem, *]; done)); (try walk_nrm))
  (co_applyP gd_val T rfl rfl (by k_ne) ?_ ?_ ?_; (focus (intro _ K hK; go_simp; (try w_num); exact hK)); (focus (intro _; simp [go_sem, *]; done)); (try walk_nrm))
  with_reducible refine gd_c T (G_running _ _) (fun _ => stepG_region_end) ?_
  (refine gd_c T rfl (fun _ => stepG_cond (t := true) rfl) ?_; simp only [if_true, if_false, Bool.false_eq_true, ↓reduceIte])
  ((with_reducible refine gd_c T (G_running _ _) (fun _ => stepG_region) ?_); simp only [List.size_toArray, List.length_cons, List.length_nil, Nat.reduceAdd, Nat.zero_add, List.range, List.range.loop])
  (co_applyP gd_val T rfl rfl (by k_ne) ?_ ?_ ?_; (focus (intro _ K hK; go_simp; (try w_num); exact hK)); (focus (intro _; simp [go_sem, *]; done)); (try walk_nrm))
  (co_applyP gd_val' T rfl rfl (by k_ne) ?_ ?_ ?_; (focus (intro w₁ h₁ K hK; obtain ⟨_, hcc⟩ := lcell0 (h₁.live hwi.live); have hcv := run_convert_to_unsafe (P := Tryz.prog) H.underlying_tWgP H.underlying_tUP H.room_tWg hcc; go_simp; exact hK)); (focus (intro w₁ h₁; have hce := fun es => events_convert_to_unsafe (P := Tryz.prog) H.underlying_tWgP H.underlying_tUP H.room_tWg (lcell0 (h₁.live hwi.live)).choose_spec es; simp [go_sem, hce]; done)); (try walk_nrm))
  refine GD.stop (fun w₁ h₁ => ⟨rfl, rfl, _, stepG_markAt .releaseMerge (by simp) rfl rfl (by k_ne) rfl H.f_relMerge (x_relMerge_n Tryz.link) (x_relMerge_b Tryz.link) (x_relMerge_x Tryz.link) (x_relMerge_f Tryz.link) (by simp [Act.eval, stA]), 100, ?_⟩)
  replace hwi := h₁.wi hwi
  clear h₁ T w
  have T := tW x
  have TS : ∀ (d : Nat) (w : World) (e : Event), e.mute = true → Ph.DW d w w #[e] := fun d w e he => ⟨rfl, by simp [he]⟩
  walk_nrm
  with_reducible refine gd_c T (G_running _ _) (fun _ => stepG_region_end) ?_
  with_reducible refine gd_c T (G_running _ _) (fun _ => stepG_seq) ?_
  ((with_reducible refine gd_c T (G_running _ _) (fun _ => stepG_region) ?_); simp only [List.size_toArray, List.length_cons, List.length_nil, Nat.reduceAdd, Nat.zero_add, List.range, List.range.loop])
  (refine gd_said T.tr _ (fun w => TS _ w _ rfl) rfl (fun _ => stepG_mark0 .disable (by simp) rfl rfl (by k_ne) rfl H.f_disable (x_disable_n Tryz.link) (x_disable_b Tryz.link) (x_disable_x Tryz.link) (x_disable_f Tryz.link)) ?_; simp only [deafBehind_disable, Nat.zero_add, Nat.reduceAdd]; (try walk_nrm))
  with_reducible refine gd_c T (G_running _ _) (fun _ => stepG_region_end) ?_
  ((with_reducible refine gd_c T (G_running _ _) (fun _ => stepG_region) ?_); simp only [List.size_toArray, List.length_cons, List.length_nil, Nat.reduceAdd, Nat.zero_add, List.range, List.range.loop])
  (refine gd_c T rfl (fun _ => stepG_defer rfl rfl (by k_ne) rfl) ?_; (try walk_nrm))
  with_reducible refine gd_c T (G_running _ _) (fun _ => stepG_region_end) ?_
  with_reducible refine gd_c T (G_running _ _) (fun _ => stepG_seq) ?_
  ((with_reducible refine gd_c T (G_running _ _) (fun _ => stepG_region) ?_); simp only [List.size_toArray, List.length_cons, List.length_nil, Nat.reduceAdd, Nat.zero_add, List.range, List.range.loop])
  (co_applyP gd_val T rfl rfl (by k_ne) ?_ ?_ ?_; (focus (intro _ K hK; go_simp; (try w_num); exact hK)); (focus (intro _; simp [go_sem, *]; done)); (try walk_nrm))
  with_reducible refine gd_c T (G_running _ _) (fun _ => stepG_region_end) ?_
  with_reducible refine gd_c T (G_running _ _) (fun _ => stepG_seq) ?_
  with_reducible refine gd_c T (G_running _ _) (fun _ => stepG_seq) ?_
  ((with_reducible refine gd_c T (G_running _ _) (fun _ => stepG_region) ?_); simp only [List.size_toArray, List.length_cons, List.length_nil, Nat.reduceAdd, Nat.zero_add, List.range, List.range.loop])
  (refine gd_c T rfl (fun _ => stepG_entry_pure (.bool false) rfl rfl (by k_ne) rfl H.f_inBubble (x_inBubble_n Tryz.link) (x_inBubble_b Tryz.link) (x_inBubble_x Tryz.link) (x_inBubble_f Tryz.link)) ?_; (try walk_nrm))
  with_reducible refine gd_c T (G_running _ _) (fun _ => stepG_region_end) ?_
  (refine gd_c T rfl (fun _ => stepG_cond (t := false) rfl) ?_; simp only [if_true, if_false, Bool.false_eq_true, ↓reduceIte])
  with_reducible refine gd_c T (G_running _ _) (fun _ => stepG_skip) ?_
  with_reducible refine gd_c T (G_running _ _) (fun _ => stepG_seq) ?_
  ((with_reducible refine gd_c T (G_running _ _) (fun _ => stepG_region) ?_); simp only [List.size_toArray, List.length_cons, List.length_nil, Nat.reduceAdd, Nat.zero_add, List.range, List.range.loop])
  (co_applyP gd_val T rfl rfl (by k_ne) ?_ ?_ ?_; (focus (intro _ K hK; go_simp; (try w_num); exact hK)); (focus (intro _; simp [go_sem, *]; done)); (try walk_nrm))
  (co_applyP gd_val T rfl rfl (by k_ne) ?_ ?_ ?_; (focus (intro _ K hK; go_simp; (try w_num); exact hK)); (focus (intro _; simp [go_sem, *]; done)); (try walk_nrm))
  (co_applyP gd_val T rfl rfl (by k_ne) ?_ ?_ ?_; (focus (intro _ K hK; go_simp; (try w_num); exact hK)); (focus (intro _; simp [go_sem, *]; done)); (try walk_nrm))
  (co_applyP gd_val T rfl rfl (by k_ne) ?_ ?_ ?_; (focus (intro _ K hK; go_simp; (try w_num); exact hK)); (focus (intro _; simp [go_sem, *]; done)); (try walk_nrm))
  (co_applyP gd_val T rfl rfl (by k_ne) ?_ ?_ ?_; (focus (intro _ K hK; go_simp; (try w_num); exact hK)); (focus (intro _; simp [go_sem, *]; done)); (try walk_nrm))
  (co_applyP gd_val T rfl rfl (by k_ne) ?_ ?_ ?_; (focus (intro _ K hK; go_simp; (try w_num); exact hK)); (focus (intro _; simp [go_sem, *]; done)); (try walk_nrm))
  (refine gd_call T rfl rfl (by k_ne) rfl Tryz.func38 cn38 rfl ?_; walk_nrmf Tryz.f38)
  with_reducible refine gd_c T (G_running _ _) (fun _ => stepG_seq) ?_
  ((with_reducible refine gd_c T (G_running _ _) (fun _ => stepG_region) ?_); simp only [List.size_toArray, List.length_cons, List.length_nil, Nat.reduceAdd, Nat.zero_add, List.range, List.range.loop])
  (co_applyP gd_val T rfl rfl (by k_ne) ?_ ?_ ?_; (focus (intro _ K hK; go_simp; (try w_num); exact hK)); (focus (intro _; simp [go_sem, *]; done)); (try walk_nrm))
  with_reducible refine gd_c T (G_running _ _) (fun _ => stepG_region_end) ?_
  with_reducible refine gd_c T (G_running _ _) (fun _ => stepG_seq) ?_
  ((with_reducible refine gd_c T (G_running _ _) (fun _ => stepG_region) ?_); simp only [List.size_toArray, List.length_cons, List.length_nil, Nat.reduceAdd, Nat.zero_add, List.range, List.range.loop])
  (co_applyP gd_val T rfl rfl (by k_ne) ?_ ?_ ?_; (focus (intro _ K hK; go_simp; (try w_num); exact hK)); (focus (intro _; simp [go_sem, *]; done)); (try walk_nrm))
  (co_applyP gd_val T rfl rfl (by k_ne) ?_ ?_ ?_; (focus (intro _ K hK; go_simp; (try w_num); exact hK)); (focus (intro _; simp [go_sem, *]; done)); (try walk_nrm))
  (co_applyP gd_val T rfl rfl (by k_ne) ?_ ?_ ?_; (focus (intro _ K hK; go_simp; (try w_num); exact hK)); (focus (intro _; simp [go_sem, *]; done)); (try walk_nrm))
  (co_applyP gd_val T rfl rfl (by k_ne) ?_ ?_ ?_; (focus (intro _ K hK; go_simp; (try w_num); exact hK)); (focus (intro _; simp [go_sem, *]; done)); (try walk_nrm))
  refine GD.stop (fun w₁ h₁ => ⟨rfl, rfl, fun v wt hwt hv hw => ?_⟩)
  obtain ⟨rfl, rfl⟩ | ⟨rfl, rfl⟩ | ⟨rfl, rfl⟩ | ⟨rfl, rfl⟩ | ⟨rfl, rfl⟩ | ⟨rfl, rfl⟩ : (v = 0 ∧ wt = 0) ∨ (v = 1 ∧ wt = 0) ∨ (v = 1 ∧ wt = 1) ∨ (v = 2 ∧ wt = 0) ∨ (v = 2 ∧ wt = 1) ∨ (v = 0 ∧ wt = 1) := by omega
  · refine ⟨_, (stepG_add_atomic rfl rfl (by k_ne) rfl H.f_addU64 (x_addU64_n Tryz.link) (x_addU64_b Tryz.link) (x_addU64_x Tryz.link) .u64 (x_addU64_f Tryz.link) rfl rfl hw.cellSt (hw.thaw 0)).trans rfl, fun h => absurd h (by decide), fun _ => ⟨qt + 200, ?_⟩⟩
    walk_nrm
    have e0 : IntKind.u64.wrap ((((0 : Nat) : Int) + 1) * KK + ((0 : Nat) : Int) + 18446744069414584320) = 0 := by decide
    simp only [e0]
    (co_applyP quits_val rfl rfl (by k_ne) ?_ ?_ ?_; (focus (intro _ K hK; go_simp; (try w_num); (try simp only [xb0, xb1, xb2, xb3, xb4, xb5]); exact hK)); (focus (intro _; simp [go_sem, *]; done)); (try walk_nrm))
    with_reducible refine QuitsD.ctl (G_running _ _) (fun _ => stepG_region_end) ?_
    with_reducible refine QuitsD.ctl (G_running _ _) (fun _ => stepG_ret') ?_
    (refine QuitsD.leave1 rfl rfl Tryz.func38 rfl ?_; (try walk_nrm))
    (co_applyP quits_val rfl rfl (by k_ne) ?_ ?_ ?_; (focus (intro _ K hK; go_simp; (try w_num); (try simp only [xb0, xb1, xb2, xb3, xb4, xb5]); exact hK)); (focus (intro _; simp [go_sem, *]; done)); (try walk_nrm))
    with_reducible refine QuitsD.ctl (G_running _ _) (fun _ => stepG_region_end) ?_
    with_reducible refine QuitsD.ctl (G_running _ _) (fun _ => stepG_seq) ?_
    with_reducible refine QuitsD.ctl (G_running _ _) (fun _ => stepG_seq) ?_
    ((with_reducible refine QuitsD.ctl (G_running _ _) (fun _ => stepG_region) ?_); simp only [List.size_toArray, List.length_cons, List.length_nil, Nat.reduceAdd, Nat.zero_add, List.range, List.range.loop])
    (co_applyP quits_val rfl rfl (by k_ne) ?_ ?_ ?_; (focus (intro _ K hK; go_simp; (try w_num); (try simp only [xb0, xb1, xb2, xb3, xb4, xb5]); exact hK)); (focus (intro _; simp [go_sem, *]; done)); (try walk_nrm))
    (co_applyP quits_val rfl rfl (by k_ne) ?_ ?_ ?_; (focus (intro _ K hK; go_simp; (try w_num); (try simp only [xb0, xb1, xb2, xb3, xb4, xb5]); exact hK)); (focus (intro _; simp [go_sem, *]; done)); (try walk_nrm))
    (co_applyP quits_val rfl rfl (by k_ne) ?_ ?_ ?_; (focus (intro _ K hK; go_simp; (try w_num); (try simp only [xb0, xb1, xb2, xb3, xb4, xb5]); exact hK)); (focus (intro _; simp [go_sem, *]; done)); (try walk_nrm))
    (co_applyP quits_val rfl rfl (by k_ne) ?_ ?_ ?_; (focus (intro _ K hK; go_simp; (try w_num); (try simp only [xb0, xb1, xb2, xb3, xb4, xb5]); exact hK)); (focus (intro _; simp [go_sem, *]; done)); (try walk_nrm))
    (refine QuitsD.unwanted rfl rfl ?_; (try walk_nrm))
    (refine QuitsD.unwanted rfl rfl ?_; (try walk_nrm))
    (co_applyP quits_val rfl rfl (by k_ne) ?_ ?_ ?_; (focus (intro _ K hK; go_simp; (try w_num); (try simp only [xb0, xb1, xb2, xb3, xb4, xb5]); exact hK)); (focus (intro _; simp [go_sem, *]; done)); (try walk_nrm))
    with_reducible refine QuitsD.ctl (G_running _ _) (fun _ => stepG_region_end) ?_
    (refine QuitsD.ctl rfl (fun _ => stepG_cond (t := false) rfl) ?_; simp only [if_true, if_false, Bool.false_eq_true, ↓reduceIte])
    with_reducible refine QuitsD.ctl (G_running _ _) (fun _ => stepG_skip) ?_
    with_reducible refine QuitsD.ctl (G_running _ _) (fun _ => stepG_seq) ?_
    ((with_reducible refine QuitsD.ctl (G_running _ _) (fun _ => stepG_region) ?_); simp only [List.size_toArray, List.length_cons, List.length_nil, Nat.reduceAdd, Nat.zero_add, List.range, List.range.loop])
    (co_applyP quits_val rfl rfl (by k_ne) ?_ ?_ ?_; (focus (intro _ K hK; go_simp; (try w_num); (try simp only [xb0, xb1, xb2, xb3, xb4, xb5]); exact hK)); (focus (intro _; simp [go_sem, *]; done)); (try walk_nrm))
    (co_applyP quits_val rfl rfl (by k_ne) ?_ ?_ ?_; (focus (intro _ K hK; go_simp; (try w_num); (try simp only [xb0, xb1, xb2, xb3, xb4, xb5]); exact hK)); (focus (intro _; simp [go_sem, *]; done)); (try walk_nrm))
    (co_applyP quits_val rfl rfl (by k_ne) ?_ ?_ ?_; (focus (intro _ K hK; go_simp; (try w_num); (try simp only [xb0, xb1, xb2, xb3, xb4, xb5]); exact hK)); (focus (intro _; simp [go_sem, *]; done)); (try walk_nrm))
    (co_applyP quits_val rfl rfl (by k_ne) ?_ ?_ ?_; (focus (intro _ K hK; go_simp; (try w_num); (try simp only [xb0, xb1, xb2, xb3, xb4, xb5]); exact hK)); (focus (intro _; simp [go_sem, *]; done)); (try walk_nrm))
    with_reducible refine QuitsD.ctl (G_running _ _) (fun _ => stepG_region_end) ?_
    with_reducible refine QuitsD.ctl (G_running _ _) (fun _ => stepG_seq) ?_
    ((with_reducible refine QuitsD.ctl (G_running _ _) (fun _ => stepG_region) ?_); simp only [List.size_toArray, List.length_cons, List.length_nil, Nat.reduceAdd, Nat.zero_add, List.range, List.range.loop])
    (co_applyP quits_val rfl rfl (by k_ne) ?_ ?_ ?_; (focus (intro _ K hK; go_simp; (try w_num); (try simp only [xb0, xb1, xb2, xb3, xb4, xb5]); exact hK)); (focus (intro _; simp [go_sem, *]; done)); (try walk_nrm))
    (co_applyP quits_val rfl rfl (by k_ne) ?_ ?_ ?_; (focus (intro _ K hK; go_simp; (try w_num); (try simp only [xb0, xb1, xb2, xb3, xb4, xb5]); exact hK)); (focus (intro _; simp [go_sem, *]; done)); (try walk_nrm))
    (co_applyP quits_val rfl rfl (by k_ne) ?_ ?_ ?_; (focus (intro _ K hK; go_simp; (try w_num); (try simp only [xb0, xb1, xb2, xb3, xb4, xb5]); exact hK)); (focus (intro _; simp [go_sem, *]; done)); (try walk_nrm))
    (co_applyP quits_val rfl rfl (by k_ne) ?_ ?_ ?_; (focus (intro _ K hK; go_simp; (try w_num); (try simp only [xb0, xb1, xb2, xb3, xb4, xb5]); exact hK)); (focus (intro _; simp [go_sem, *]; done)); (try walk_nrm))
    with_reducible refine QuitsD.ctl (G_running _ _) (fun _ => stepG_region_end) ?_
    with_reducible refine QuitsD.ctl (G_running _ _) (fun _ => stepG_seq) ?_
    with_reducible refine QuitsD.ctl (G_running _ _) (fun _ => stepG_seq) ?_
    ((with_reducible refine QuitsD.ctl (G_running _ _) (fun _ => stepG_region) ?_); simp only [List.size_toArray, List.length_cons, List.length_nil, Nat.reduceAdd, Nat.zero_add, List.range, List.range.loop])
    (co_applyP quits_val rfl rfl (by k_ne) ?_ ?_ ?_; (focus (intro _ K hK; go_simp; (try w_num); (try simp only [xb0, xb1, xb2, xb3, xb4, xb5]); exact hK)); (focus (intro _; simp [go_sem, *]; done)); (try walk_nrm))
    (co_applyP quits_val rfl rfl (by k_ne) ?_ ?_ ?_; (focus (intro _ K hK; go_simp; (try w_num); (try simp only [xb0, xb1, xb2, xb3, xb4, xb5]); exact hK)); (focus (intro _; simp [go_sem, *]; done)); (try walk_nrm))
    (co_applyP quits_val rfl rfl (by k_ne) ?_ ?_ ?_; (focus (intro _ K hK; go_simp; (try w_num); (try simp only [xb0, xb1, xb2, xb3, xb4, xb5]); exact hK)); (focus (intro _; simp [go_sem, *]; done)); (try walk_nrm))
    (co_applyP quits_val rfl rfl (by k_ne) ?_ ?_ ?_; (focus (intro _ K hK; go_simp; (try w_num); (try simp only [xb0, xb1, xb2, xb3, xb4, xb5]); exact hK)); (focus (intro _; simp [go_sem, *]; done)); (try walk_nrm))
    (co_applyP quits_val rfl rfl (by k_ne) ?_ ?_ ?_; (focus (intro _ K hK; go_simp; (try w_num); (try simp only [xb0, xb1, xb2, xb3, xb4, xb5]); exact hK)); (focus (intro _; simp [go_sem, *]; done)); (try walk_nrm))
    (refine QuitsD.unwanted rfl rfl ?_; (try walk_nrm))
    (refine QuitsD.unwanted rfl rfl ?_; (try walk_nrm))
    (refine QuitsD.unwanted rfl rfl ?_; (try walk_nrm))
    (refine QuitsD.unwanted rfl rfl ?_; (try walk_nrm))
    (co_applyP quits_val rfl rfl (by k_ne) ?_ ?_ ?_; (focus (intro _ K hK; go_simp; (try w_num); (try simp only [xb0, xb1, xb2, xb3, xb4, xb5]); exact hK)); (focus (intro _; simp [go_sem, *]; done)); (try walk_nrm))
    with_reducible refine QuitsD.ctl (G_running _ _) (fun _ => stepG_region_end) ?_
    (refine QuitsD.ctl rfl (fun _ => stepG_cond (t := false) rfl) ?_; simp only [if_true, if_false, Bool.false_eq_true, ↓reduceIte])
    with_reducible refine QuitsD.ctl (G_running _ _) (fun _ => stepG_skip) ?_
    with_reducible refine QuitsD.ctl (G_running _ _) (fun _ => stepG_seq) ?_
    with_reducible refine QuitsD.ctl (G_running _ _) (fun _ => stepG_seq) ?_
    ((with_reducible refine QuitsD.ctl (G_running _ _) (fun _ => stepG_region) ?_); simp only [List.size_toArray, List.length_cons, List.length_nil, Nat.reduceAdd, Nat.zero_add, List.range, List.range.loop])
    (co_applyP quits_val rfl rfl (by k_ne) ?_ ?_ ?_; (focus (intro _ K hK; go_simp; (try w_num); (try simp only [xb0, xb1, xb2, xb3, xb4, xb5]); exact hK)); (focus (intro _; simp [go_sem, *]; done)); (try walk_nrm))
    (co_applyP quits_val rfl rfl (by k_ne) ?_ ?_ ?_; (focus (intro _ K hK; go_simp; (try w_num); (try simp only [xb0, xb1, xb2, xb3, xb4, xb5]); exact hK)); (focus (intro _; simp [go_sem, *]; done)); (try walk_nrm))
    with_reducible refine QuitsD.ctl (G_running _ _) (fun _ => stepG_region_end) ?_
    (refine QuitsD.ctl rfl (fun _ => stepG_cond (t := false) rfl) ?_; simp only [if_true, if_false, Bool.false_eq_true, ↓reduceIte])
    with_reducible refine QuitsD.ctl (G_running _ _) (fun _ => stepG_skip) ?_
    with_reducible refine QuitsD.ctl (G_running _ _) (fun _ => stepG_seq) ?_
    with_reducible refine QuitsD.ctl (G_running _ _) (fun _ => stepG_seq) ?_
    ((with_reducible refine QuitsD.ctl (G_running _ _) (fun _ => stepG_region) ?_); simp only [List.size_toArray, List.length_cons, List.length_nil, Nat.reduceAdd, Nat.zero_add, List.range, List.range.loop])
    (co_applyP quits_val rfl rfl (by k_ne) ?_ ?_ ?_; (focus (intro _ K hK; go_simp; (try w_num); (try simp only [xb0, xb1, xb2, xb3, xb4, xb5]); exact hK)); (focus (intro _; simp [go_sem, *]; done)); (try walk_nrm))
    (co_applyP quits_val rfl rfl (by k_ne) ?_ ?_ ?_; (focus (intro _ K hK; go_simp; (try w_num); (try simp only [xb0, xb1, xb2, xb3, xb4, xb5]); exact hK)); (focus (intro _; simp [go_sem, *]; done)); (try walk_nrm))
    (co_applyP quits_val rfl rfl (by k_ne) ?_ ?_ ?_; (focus (intro _ K hK; go_simp; (try w_num); (try simp only [xb0, xb1, xb2, xb3, xb4, xb5]); exact hK)); (focus (intro _; simp [go_sem, *]; done)); (try walk_nrm))
    (refine QuitsD.unwanted rfl rfl ?_; (try walk_nrm))
    (refine QuitsD.unwanted rfl rfl ?_; (try walk_nrm))
    (co_applyP quits_val rfl rfl (by k_ne) ?_ ?_ ?_; (focus (intro _ K hK; go_simp; (try w_num); (try simp only [xb0, xb1, xb2, xb3, xb4, xb5]); exact hK)); (focus (intro _; simp [go_sem, *]; done)); (try walk_nrm))
    (co_applyP quits_val rfl rfl (by k_ne) ?_ ?_ ?_; (focus (intro _ K hK; go_simp; (try w_num); (try simp only [xb0, xb1, xb2, xb3, xb4, xb5]); exact hK)); (focus (intro _; simp [go_sem, *]; done)); (try walk_nrm))
    (refine QuitsD.unwanted rfl rfl ?_; (try walk_nrm))
    (refine QuitsD.unwanted rfl rfl ?_; (try walk_nrm))
    (refine QuitsD.unwanted rfl rfl ?_; (try walk_nrm))
    (refine QuitsD.unwanted rfl rfl ?_; (try walk_nrm))
    (co_applyP quits_val rfl rfl (by k_ne) ?_ ?_ ?_; (focus (intro _ K hK; go_simp; (try w_num); (try simp only [xb0, xb1, xb2, xb3, xb4, xb5]); exact hK)); (focus (intro _; simp [go_sem, *]; done)); (try walk_nrm))
    with_reducible refine QuitsD.ctl (G_running _ _) (fun _ => stepG_region_end) ?_
    (refine QuitsD.ctl rfl (fun _ => stepG_cond (t := false) rfl) ?_; simp only [if_true, if_false, Bool.false_eq_true, ↓reduceIte])
    with_reducible refine QuitsD.ctl (G_running _ _) (fun _ => stepG_skip) ?_
    with_reducible refine QuitsD.ctl (G_running _ _) (fun _ => stepG_seq) ?_
    with_reducible refine QuitsD.ctl (G_running _ _) (fun _ => stepG_seq) ?_
    ((with_reducible refine QuitsD.ctl (G_running _ _) (fun _ => stepG_region) ?_); simp only [List.size_toArray, List.length_cons, List.length_nil, Nat.reduceAdd, Nat.zero_add, List.range, List.range.loop])
    (co_applyP quits_val rfl rfl (by k_ne) ?_ ?_ ?_; (focus (intro _ K hK; go_simp; (try w_num); (try simp only [xb0, xb1, xb2, xb3, xb4, xb5]); exact hK)); (focus (intro _; simp [go_sem, *]; done)); (try walk_nrm))
    (co_applyP quits_val rfl rfl (by k_ne) ?_ ?_ ?_; (focus (intro _ K hK; go_simp; (try w_num); (try simp only [xb0, xb1, xb2, xb3, xb4, xb5]); exact hK)); (focus (intro _; simp [go_sem, *]; done)); (try walk_nrm))
    (co_applyP quits_val rfl rfl (by k_ne) ?_ ?_ ?_; (focus (intro _ K hK; go_simp; (try w_num); (try simp only [xb0, xb1, xb2, xb3, xb4, xb5]); exact hK)); (focus (intro _; simp [go_sem, *]; done)); (try walk_nrm))
    (co_applyP quits_val rfl rfl (by k_ne) ?_ ?_ ?_; (focus (intro _ K hK; go_simp; (try w_num); (try simp only [xb0, xb1, xb2, xb3, xb4, xb5]); exact hK)); (focus (intro _; simp [go_sem, *]; done)); (try walk_nrm))
    (co_applyP quits_val rfl rfl (by k_ne) ?_ ?_ ?_; (focus (intro _ K hK; go_simp; (try w_num); (try simp only [xb0, xb1, xb2, xb3, xb4, xb5]); exact hK)); (focus (intro _; simp [go_sem, *]; done)); (try walk_nrm))
    (co_applyP quits_val rfl rfl (by k_ne) ?_ ?_ ?_; (focus (intro _ K hK; go_simp; (try w_num); (try simp only [xb0, xb1, xb2, xb3, xb4, xb5]); exact hK)); (focus (intro _; simp [go_sem, *]; done)); (try walk_nrm))
    with_reducible refine QuitsD.ctl (G_running _ _) (fun _ => stepG_region_end) ?_
    (refine QuitsD.ctl rfl (fun _ => stepG_cond (t := true) rfl) ?_; simp only [if_true, if_false, Bool.false_eq_true, ↓reduceIte])
    with_reducible refine QuitsD.ctl (G_running _ _) (fun _ => stepG_ret') ?_
    (refine QuitsD.unwind_mark .enable rfl (by simp) rfl H.f_enable (x_enable_n Tryz.link) (x_enable_b Tryz.link) (x_enable_x Tryz.link) (x_enable_f Tryz.link) ?_; simp only [deafBehind_enable, Nat.sub_self, Nat.reduceSub])
    (refine QuitsD.leave0 rfl rfl Tryz.func23 rfl ?_; (try walk_nrm))
    with_reducible refine QuitsD.ctl (G_running _ _) (fun _ => stepG_region_end) ?_
    with_reducible refine QuitsD.ctl (G_running _ _) (fun _ => stepG_end) ?_
    exact QuitsD.leaveD rfl rfl Tryz.func25 rfl hcm (quits_le hT (by omega))
  · refine ⟨_, (stepG_add_atomic rfl rfl (by k_ne) rfl H.f_addU64 (x_addU64_n Tryz.link) (x_addU64_b Tryz.link) (x_addU64_x Tryz.link) .u64 (x_addU64_f Tryz.link) rfl rfl hw.cellSt (hw.thaw 0)).trans rfl, fun h => absurd h (by decide), fun _ => ⟨qt + 200, ?_⟩⟩
    walk_nrm
    have e0 : IntKind.u64.wrap ((((1 : Nat) : Int) + 1) * KK + ((0 : Nat) : Int) + 18446744069414584320) = 4294967296 := by decide
    simp only [e0]
    (co_applyP quits_val rfl rfl (by k_ne) ?_ ?_ ?_; (focus (intro _ K hK; go_simp; (try w_num); (try simp only [xb0, xb1, xb2, xb3, xb4, xb5]); exact hK)); (focus (intro _; simp [go_sem, *]; done)); (try walk_nrm))
    with_reducible refine QuitsD.ctl (G_running _ _) (fun _ => stepG_region_end) ?_
    with_reducible refine QuitsD.ctl (G_running _ _) (fun _ => stepG_ret') ?_
    (refine QuitsD.leave1 rfl rfl Tryz.func38 rfl ?_; (try walk_nrm))
    (co_applyP quits_val rfl rfl (by k_ne) ?_ ?_ ?_; (focus (intro _ K hK; go_simp; (try w_num); (try simp only [xb0, xb1, xb2, xb3, xb4, xb5]); exact hK)); (focus (intro _; simp [go_sem, *]; done)); (try walk_nrm))
    with_reducible refine QuitsD.ctl (G_running _ _) (fun _ => stepG_region_end) ?_
    with_reducible refine QuitsD.ctl (G_running _ _) (fun _ => stepG_seq) ?_
    with_reducible refine QuitsD.ctl (G_running _ _) (fun _ => stepG_seq) ?_
    ((with_reducible refine QuitsD.ctl (G_running _ _) (fun _ => stepG_region) ?_); simp only [List.size_toArray, List.length_cons, List.length_nil, Nat.reduceAdd, Nat.zero_add, List.range, List.range.loop])
    (co_applyP quits_val rfl rfl (by k_ne) ?_ ?_ ?_; (focus (intro _ K hK; go_simp; (try w_num); (try simp only [xb0, xb1, xb2, xb3, xb4, xb5]); exact hK)); (focus (intro _; simp [go_sem, *]; done)); (try walk_nrm))
    (co_applyP quits_val rfl rfl (by k_ne) ?_ ?_ ?_; (focus (intro _ K hK; go_simp; (try w_num); (try simp only [xb0, xb1, xb2, xb3, xb4, xb5]); exact hK)); (focus (intro _; simp [go_sem, *]; done)); (try walk_nrm))
    (co_applyP quits_val rfl rfl (by k_ne) ?_ ?_ ?_; (focus (intro _ K hK; go_simp; (try w_num); (try simp only [xb0, xb1, xb2, xb3, xb4, xb5]); exact hK)); (focus (intro _; simp [go_sem, *]; done)); (try walk_nrm))
    (co_applyP quits_val rfl rfl (by k_ne) ?_ ?_ ?_; (focus (intro _ K hK; go_simp; (try w_num); (try simp only [xb0, xb1, xb2, xb3, xb4, xb5]); exact hK)); (focus (intro _; simp [go_sem, *]; done)); (try walk_nrm))
    (refine QuitsD.unwanted rfl rfl ?_; (try walk_nrm))
    (refine QuitsD.unwanted rfl rfl ?_; (try walk_nrm))
    (co_applyP quits_val rfl rfl (by k_ne) ?_ ?_ ?_; (focus (intro _ K hK; go_simp; (try w_num); (try simp only [xb0, xb1, xb2, xb3, xb4, xb5]); exact hK)); (focus (intro _; simp [go_sem, *]; done)); (try walk_nrm))
    with_reducible refine QuitsD.ctl (G_running _ _) (fun _ => stepG_region_end) ?_
    (refine QuitsD.ctl rfl (fun _ => stepG_cond (t := false) rfl) ?_; simp only [if_true, if_false, Bool.false_eq_true, ↓reduceIte])
    with_reducible refine QuitsD.ctl (G_running _ _) (fun _ => stepG_skip) ?_
    with_reducible refine QuitsD.ctl (G_running _ _) (fun _ => stepG_seq) ?_
    ((with_reducible refine QuitsD.ctl (G_running _ _) (fun _ => stepG_region) ?_); simp only [List.size_toArray, List.length_cons, List.length_nil, Nat.reduceAdd, Nat.zero_add, List.range, List.range.loop])
    (co_applyP quits_val rfl rfl (by k_ne) ?_ ?_ ?_; (focus (intro _ K hK; go_simp; (try w_num); (try simp only [xb0, xb1, xb2, xb3, xb4, xb5]); exact hK)); (focus (intro _; simp [go_sem, *]; done)); (try walk_nrm))
    (co_applyP quits_val rfl rfl (by k_ne) ?_ ?_ ?_; (focus (intro _ K hK; go_simp; (try w_num); (try simp only [xb0, xb1, xb2, xb3, xb4, xb5]); exact hK)); (focus (intro _; simp [go_sem, *]; done)); (try walk_nrm))
    (co_applyP quits_val rfl rfl (by k_ne) ?_ ?_ ?_; (focus (intro _ K hK; go_simp; (try w_num); (try simp only [xb0, xb1, xb2, xb3, xb4, xb5]); exact hK)); (focus (intro _; simp [go_sem, *]; done)); (try walk_nrm))
    (co_applyP quits_val rfl rfl (by k_ne) ?_ ?_ ?_; (focus (intro _ K hK; go_simp; (try w_num); (try simp only [xb0, xb1, xb2, xb3, xb4, xb5]); exact hK)); (focus (intro _; simp [go_sem, *]; done)); (try walk_nrm))
    with_reducible refine QuitsD.ctl (G_running _ _) (fun _ => stepG_region_end) ?_
    with_reducible refine QuitsD.ctl (G_running _ _) (fun _ => stepG_seq) ?_
    ((with_reducible refine QuitsD.ctl (G_running _ _) (fun _ => stepG_region) ?_); simp only [List.size_toArray, List.length_cons, List.length_nil, Nat.reduceAdd, Nat.zero_add, List.range, List.range.loop])
    (co_applyP quits_val rfl rfl (by k_ne) ?_ ?_ ?_; (focus (intro _ K hK; go_simp; (try w_num); (try simp only [xb0, xb1, xb2, xb3, xb4, xb5]); exact hK)); (focus (intro _; simp [go_sem, *]; done)); (try walk_nrm))
    (co_applyP quits_val rfl rfl (by k_ne) ?_ ?_ ?_; (focus (intro _ K hK; go_simp; (try w_num); (try simp only [xb0, xb1, xb2, xb3, xb4, xb5]); exact hK)); (focus (intro _; simp [go_sem, *]; done)); (try walk_nrm))
    (co_applyP quits_val rfl rfl (by k_ne) ?_ ?_ ?_; (focus (intro _ K hK; go_simp; (try w_num); (try simp only [xb0, xb1, xb2, xb3, xb4, xb5]); exact hK)); (focus (intro _; simp [go_sem, *]; done)); (try walk_nrm))
    (co_applyP quits_val rfl rfl (by k_ne) ?_ ?_ ?_; (focus (intro _ K hK; go_simp; (try w_num); (try simp only [xb0, xb1, xb2, xb3, xb4, xb5]); exact hK)); (focus (intro _; simp [go_sem, *]; done)); (try walk_nrm))
    with_reducible refine QuitsD.ctl (G_running _ _) (fun _ => stepG_region_end) ?_
    with_reducible refine QuitsD.ctl (G_running _ _) (fun _ => stepG_seq) ?_
    with_reducible refine QuitsD.ctl (G_running _ _) (fun _ => stepG_seq) ?_
    ((with_reducible refine QuitsD.ctl (G_running _ _) (fun _ => stepG_region) ?_); simp only [List.size_toArray, List.length_cons, List.length_nil, Nat.reduceAdd, Nat.zero_add, List.range, List.range.loop])
    (co_applyP quits_val rfl rfl (by k_ne) ?_ ?_ ?_; (focus (intro _ K hK; go_simp; (try w_num); (try simp only [xb0, xb1, xb2, xb3, xb4, xb5]); exact hK)); (focus (intro _; simp [go_sem, *]; done)); (try walk_nrm))
    (co_applyP quits_val rfl rfl (by k_ne) ?_ ?_ ?_; (focus (intro _ K hK; go_simp; (try w_num); (try simp only [xb0, xb1, xb2, xb3, xb4, xb5]); exact hK)); (focus (intro _; simp [go_sem, *]; done)); (try walk_nrm))
    (co_applyP quits_val rfl rfl (by k_ne) ?_ ?_ ?_; (focus (intro _ K hK; go_simp; (try w_num); (try simp only [xb0, xb1, xb2, xb3, xb4, xb5]); exact hK)); (focus (intro _; simp [go_sem, *]; done)); (try walk_nrm))
    (co_applyP quits_val rfl rfl (by k_ne) ?_ ?_ ?_; (focus (intro _ K hK; go_simp; (try w_num); (try simp only [xb0, xb1, xb2, xb3, xb4, xb5]); exact hK)); (focus (intro _; simp [go_sem, *]; done)); (try walk_nrm))
    (co_applyP quits_val rfl rfl (by k_ne) ?_ ?_ ?_; (focus (intro _ K hK; go_simp; (try w_num); (try simp only [xb0, xb1, xb2, xb3, xb4, xb5]); exact hK)); (focus (intro _; simp [go_sem, *]; done)); (try walk_nrm))
    (refine QuitsD.unwanted rfl rfl ?_; (try walk_nrm))
    (refine QuitsD.unwanted rfl rfl ?_; (try walk_nrm))
    (refine QuitsD.unwanted rfl rfl ?_; (try walk_nrm))
    (refine QuitsD.unwanted rfl rfl ?_; (try walk_nrm))
    (co_applyP quits_val rfl rfl (by k_ne) ?_ ?_ ?_; (focus (intro _ K hK; go_simp; (try w_num); (try simp only [xb0, xb1, xb2, xb3, xb4, xb5]); exact hK)); (focus (intro _; simp [go_sem, *]; done)); (try walk_nrm))
    with_reducible refine QuitsD.ctl (G_running _ _) (fun _ => stepG_region_end) ?_
    (refine QuitsD.ctl rfl (fun _ => stepG_cond (t := false) rfl) ?_; simp only [if_true, if_false, Bool.false_eq_true, ↓reduceIte])
    with_reducible refine QuitsD.ctl (G_running _ _) (fun _ => stepG_skip) ?_
    with_reducible refine QuitsD.ctl (G_running _ _) (fun _ => stepG_seq) ?_
    with_reducible refine QuitsD.ctl (G_running _ _) (fun _ => stepG_seq) ?_
    ((with_reducible refine QuitsD.ctl (G_running _ _) (fun _ => stepG_region) ?_); simp only [List.size_toArray, List.length_cons, List.length_nil, Nat.reduceAdd, Nat.zero_add, List.range, List.range.loop])
    (co_applyP quits_val rfl rfl (by k_ne) ?_ ?_ ?_; (focus (intro _ K hK; go_simp; (try w_num); (try simp only [xb0, xb1, xb2, xb3, xb4, xb5]); exact hK)); (focus (intro _; simp [go_sem, *]; done)); (try walk_nrm))
    (co_applyP quits_val rfl rfl (by k_ne) ?_ ?_ ?_; (focus (intro _ K hK; go_simp; (try w_num); (try simp only [xb0, xb1, xb2, xb3, xb4, xb5]); exact hK)); (focus (intro _; simp [go_sem, *]; done)); (try walk_nrm))
    with_reducible refine QuitsD.ctl (G_running _ _) (fun _ => stepG_region_end) ?_
    (refine QuitsD.ctl rfl (fun _ => stepG_cond (t := false) rfl) ?_; simp only [if_true, if_false, Bool.false_eq_true, ↓reduceIte])
    with_reducible refine QuitsD.ctl (G_running _ _) (fun _ => stepG_skip) ?_
    with_reducible refine QuitsD.ctl (G_running _ _) (fun _ => stepG_seq) ?_
    with_reducible refine QuitsD.ctl (G_running _ _) (fun _ => stepG_seq) ?_
    ((with_reducible refine QuitsD.ctl (G_running _ _) (fun _ => stepG_region) ?_); simp only [List.size_toArray, List.length_cons, List.length_nil, Nat.reduceAdd, Nat.zero_add, List.range, List.range.loop])
    (co_applyP quits_val rfl rfl (by k_ne) ?_ ?_ ?_; (focus (intro _ K hK; go_simp; (try w_num); (try simp only [xb0, xb1, xb2, xb3, xb4, xb5]); exact hK)); (focus (intro _; simp [go_sem, *]; done)); (try walk_nrm))
    (co_applyP quits_val rfl rfl (by k_ne) ?_ ?_ ?_; (focus (intro _ K hK; go_simp; (try w_num); (try simp only [xb0, xb1, xb2, xb3, xb4, xb5]); exact hK)); (focus (intro _; simp [go_sem, *]; done)); (try walk_nrm))
    (co_applyP quits_val rfl rfl (by k_ne) ?_ ?_ ?_; (focus (intro _ K hK; go_simp; (try w_num); (try simp only [xb0, xb1, xb2, xb3, xb4, xb5]); exact hK)); (focus (intro _; simp [go_sem, *]; done)); (try walk_nrm))
    (refine QuitsD.unwanted rfl rfl ?_; (try walk_nrm))
    (refine QuitsD.unwanted rfl rfl ?_; (try walk_nrm))
    (co_applyP quits_val rfl rfl (by k_ne) ?_ ?_ ?_; (focus (intro _ K hK; go_simp; (try w_num); (try simp only [xb0, xb1, xb2, xb3, xb4, xb5]); exact hK)); (focus (intro _; simp [go_sem, *]; done)); (try walk_nrm))
    (co_applyP quits_val rfl rfl (by k_ne) ?_ ?_ ?_; (focus (intro _ K hK; go_simp; (try w_num); (try simp only [xb0, xb1, xb2, xb3, xb4, xb5]); exact hK)); (focus (intro _; simp [go_sem, *]; done)); (try walk_nrm))
    (refine QuitsD.unwanted rfl rfl ?_; (try walk_nrm))
    (refine QuitsD.unwanted rfl rfl ?_; (try walk_nrm))
    (refine QuitsD.unwanted rfl rfl ?_; (try walk_nrm))
    (refine QuitsD.unwanted rfl rfl ?_; (try walk_nrm))
    (co_applyP quits_val rfl rfl (by k_ne) ?_ ?_ ?_; (focus (intro _ K hK; go_simp; (try w_num); (try simp only [xb0, xb1, xb2, xb3, xb4, xb5]); exact hK)); (focus (intro _; simp [go_sem, *]; done)); (try walk_nrm))
    with_reducible refine QuitsD.ctl (G_running _ _) (fun _ => stepG_region_end) ?_
    (refine QuitsD.ctl rfl (fun _ => stepG_cond (t := false) rfl) ?_; simp only [if_true, if_false, Bool.false_eq_true, ↓reduceIte])
    with_reducible refine QuitsD.ctl (G_running _ _) (fun _ => stepG_skip) ?_
    with_reducible refine QuitsD.ctl (G_running _ _) (fun _ => stepG_seq) ?_
    with_reducible refine QuitsD.ctl (G_running _ _) (fun _ => stepG_seq) ?_
    ((with_reducible refine QuitsD.ctl (G_running _ _) (fun _ => stepG_region) ?_); simp only [List.size_toArray, List.length_cons, List.length_nil, Nat.reduceAdd, Nat.zero_add, List.range, List.range.loop])
    (co_applyP quits_val rfl rfl (by k_ne) ?_ ?_ ?_; (focus (intro _ K hK; go_simp; (try w_num); (try simp only [xb0, xb1, xb2, xb3, xb4, xb5]); exact hK)); (focus (intro _; simp [go_sem, *]; done)); (try walk_nrm))
    (co_applyP quits_val rfl rfl (by k_ne) ?_ ?_ ?_; (focus (intro _ K hK; go_simp; (try w_num); (try simp only [xb0, xb1, xb2, xb3, xb4, xb5]); exact hK)); (focus (intro _; simp [go_sem, *]; done)); (try walk_nrm))
    (co_applyP quits_val rfl rfl (by k_ne) ?_ ?_ ?_; (focus (intro _ K hK; go_simp; (try w_num); (try simp only [xb0, xb1, xb2, xb3, xb4, xb5]); exact hK)); (focus (intro _; simp [go_sem, *]; done)); (try walk_nrm))
    (refine QuitsD.unwanted rfl rfl ?_; (try walk_nrm))
    (refine QuitsD.unwanted rfl rfl ?_; (try walk_nrm))
    (co_applyP quits_val rfl rfl (by k_ne) ?_ ?_ ?_; (focus (intro _ K hK; go_simp; (try w_num); (try simp only [xb0, xb1, xb2, xb3, xb4, xb5]); exact hK)); (focus (intro _; simp [go_sem, *]; done)); (try walk_nrm))
    with_reducible refine QuitsD.ctl (G_running _ _) (fun _ => stepG_region_end) ?_
    (refine QuitsD.ctl rfl (fun _ => stepG_cond (t := true) rfl) ?_; simp only [if_true, if_false, Bool.false_eq_true, ↓reduceIte])
    with_reducible refine QuitsD.ctl (G_running _ _) (fun _ => stepG_ret') ?_
    (refine QuitsD.unwind_mark .enable rfl (by simp) rfl H.f_enable (x_enable_n Tryz.link) (x_enable_b Tryz.link) (x_enable_x Tryz.link) (x_enable_f Tryz.link) ?_; simp only [deafBehind_enable, Nat.sub_self, Nat.reduceSub])
    (refine QuitsD.leave0 rfl rfl Tryz.func23 rfl ?_; (try walk_nrm))
    with_reducible refine QuitsD.ctl (G_running _ _) (fun _ => stepG_region_end) ?_
    with_reducible refine QuitsD.ctl (G_running _ _) (fun _ => stepG_end) ?_
    exact QuitsD.leaveD rfl rfl Tryz.func25 rfl hcm (quits_le hT (by omega))
  · refine ⟨_, (stepG_add_atomic rfl rfl (by k_ne) rfl H.f_addU64 (x_addU64_n Tryz.link) (x_addU64_b Tryz.link) (x_addU64_x Tryz.link) .u64 (x_addU64_f Tryz.link) rfl rfl hw.cellSt (hw.thaw 0)).trans rfl, fun h => absurd h (by decide), fun _ => ⟨qt + 200, ?_⟩⟩
    walk_nrm
    have e0 : IntKind.u64.wrap ((((1 : Nat) : Int) + 1) * KK + ((1 : Nat) : Int) + 18446744069414584320) = 4294967297 := by decide
    simp only [e0]
    (co_applyP quits_val rfl rfl (by k_ne) ?_ ?_ ?_; (focus (intro _ K hK; go_simp; (try w_num); (try simp only [xb0, xb1, xb2, xb3, xb4, xb5]); exact hK)); (focus (intro _; simp [go_sem, *]; done)); (try walk_nrm))
    with_reducible refine QuitsD.ctl (G_running _ _) (fun _ => stepG_region_end) ?_
    with_reducible refine QuitsD.ctl (G_running _ _) (fun _ => stepG_ret') ?_
    (refine QuitsD.leave1 rfl rfl Tryz.func38 rfl ?_; (try walk_nrm))
    (co_applyP quits_val rfl rfl (by k_ne) ?_ ?_ ?_; (focus (intro _ K hK; go_simp; (try w_num); (try simp only [xb0, xb1, xb2, xb3, xb4, xb5]); exact hK)); (focus (intro _; simp [go_sem, *]; done)); (try walk_nrm))
    with_reducible refine QuitsD.ctl (G_running _ _) (fun _ => stepG_region_end) ?_
    with_reducible refine QuitsD.ctl (G_running _ _) (fun _ => stepG_seq) ?_
    with_reducible refine QuitsD.ctl (G_running _ _) (fun _ => stepG_seq) ?_
    ((with_reducible refine QuitsD.ctl (G_running _ _) (fun _ => stepG_region) ?_); simp only [List.size_toArray, List.length_cons, List.length_nil, Nat.reduceAdd, Nat.zero_add, List.range, List.range.loop])
    (co_applyP quits_val rfl rfl (by k_ne) ?_ ?_ ?_; (focus (intro _ K hK; go_simp; (try w_num); (try simp only [xb0, xb1, xb2, xb3, xb4, xb5]); exact hK)); (focus (intro _; simp [go_sem, *]; done)); (try walk_nrm))
    (co_applyP quits_val rfl rfl (by k_ne) ?_ ?_ ?_; (focus (intro _ K hK; go_simp; (try w_num); (try simp only [xb0, xb1, xb2, xb3, xb4, xb5]); exact hK)); (focus (intro _; simp [go_sem, *]; done)); (try walk_nrm))
    (co_applyP quits_val rfl rfl (by k_ne) ?_ ?_ ?_; (focus (intro _ K hK; go_simp; (try w_num); (try simp only [xb0, xb1, xb2, xb3, xb4, xb5]); exact hK)); (focus (intro _; simp [go_sem, *]; done)); (try walk_nrm))
    (co_applyP quits_val rfl rfl (by k_ne) ?_ ?_ ?_; (focus (intro _ K hK; go_simp; (try w_num); (try simp only [xb0, xb1, xb2, xb3, xb4, xb5]); exact hK)); (focus (intro _; simp [go_sem, *]; done)); (try walk_nrm))
    (refine QuitsD.unwanted rfl rfl ?_; (try walk_nrm))
    (refine QuitsD.unwanted rfl rfl ?_; (try walk_nrm))
    (co_applyP quits_val rfl rfl (by k_ne) ?_ ?_ ?_; (focus (intro _ K hK; go_simp; (try w_num); (try simp only [xb0, xb1, xb2, xb3, xb4, xb5]); exact hK)); (focus (intro _; simp [go_sem, *]; done)); (try walk_nrm))
    with_reducible refine QuitsD.ctl (G_running _ _) (fun _ => stepG_region_end) ?_
    (refine QuitsD.ctl rfl (fun _ => stepG_cond (t := false) rfl) ?_; simp only [if_true, if_false, Bool.false_eq_true, ↓reduceIte])
    with_reducible refine QuitsD.ctl (G_running _ _) (fun _ => stepG_skip) ?_
    with_reducible refine QuitsD.ctl (G_running _ _) (fun _ => stepG_seq) ?_
    ((with_reducible refine QuitsD.ctl (G_running _ _) (fun _ => stepG_region) ?_); simp only [List.size_toArray, List.length_cons, List.length_nil, Nat.reduceAdd, Nat.zero_add, List.range, List.range.loop])
    (co_applyP quits_val rfl rfl (by k_ne) ?_ ?_ ?_; (focus (intro _ K hK; go_simp; (try w_num); (try simp only [xb0, xb1, xb2, xb3, xb4, xb5]); exact hK)); (focus (intro _; simp [go_sem, *]; done)); (try walk_nrm))
    (co_applyP quits_val rfl rfl (by k_ne) ?_ ?_ ?_; (focus (intro _ K hK; go_simp; (try w_num); (try simp only [xb0, xb1, xb2, xb3, xb4, xb5]); exact hK)); (focus (intro _; simp [go_sem, *]; done)); (try walk_nrm))
    (co_applyP quits_val rfl rfl (by k_ne) ?_ ?_ ?_; (focus (intro _ K hK; go_simp; (try w_num); (try simp only [xb0, xb1, xb2, xb3, xb4, xb5]); exact hK)); (focus (intro _; simp [go_sem, *]; done)); (try walk_nrm))
    (co_applyP quits_val rfl rfl (by k_ne) ?_ ?_ ?_; (focus (intro _ K hK; go_simp; (try w_num); (try simp only [xb0, xb1, xb2, xb3, xb4, xb5]); exact hK)); (focus (intro _; simp [go_sem, *]; done)); (try walk_nrm))
    with_reducible refine QuitsD.ctl (G_running _ _) (fun _ => stepG_region_end) ?_
    with_reducible refine QuitsD.ctl (G_running _ _) (fun _ => stepG_seq) ?_
    ((with_reducible refine QuitsD.ctl (G_running _ _) (fun _ => stepG_region) ?_); simp only [List.size_toArray, List.length_cons, List.length_nil, Nat.reduceAdd, Nat.zero_add, List.range, List.range.loop])
    (co_applyP quits_val rfl rfl (by k_ne) ?_ ?_ ?_; (focus (intro _ K hK; go_simp; (try w_num); (try simp only [xb0, xb1, xb2, xb3, xb4, xb5]); exact hK)); (focus (intro _; simp [go_sem, *]; done)); (try walk_nrm))
    (co_applyP quits_val rfl rfl (by k_ne) ?_ ?_ ?_; (focus (intro _ K hK; go_simp; (try w_num); (try simp only [xb0, xb1, xb2, xb3, xb4, xb5]); exact hK)); (focus (intro _; simp [go_sem, *]; done)); (try walk_nrm))
    (co_applyP quits_val rfl rfl (by k_ne) ?_ ?_ ?_; (focus (intro _ K hK; go_simp; (try w_num); (try simp only [xb0, xb1, xb2, xb3, xb4, xb5]); exact hK)); (focus (intro _; simp [go_sem, *]; done)); (try walk_nrm))
    (co_applyP quits_val rfl rfl (by k_ne) ?_ ?_ ?_; (focus (intro _ K hK; go_simp; (try w_num); (try simp only [xb0, xb1, xb2, xb3, xb4, xb5]); exact hK)); (focus (intro _; simp [go_sem, *]; done)); (try walk_nrm))
    with_reducible refine QuitsD.ctl (G_running _ _) (fun _ => stepG_region_end) ?_
    with_reducible refine QuitsD.ctl (G_running _ _) (fun _ => stepG_seq) ?_
    with_reducible refine QuitsD.ctl (G_running _ _) (fun _ => stepG_seq) ?_
    ((with_reducible refine QuitsD.ctl (G_running _ _) (fun _ => stepG_region) ?_); simp only [List.size_toArray, List.length_cons, List.length_nil, Nat.reduceAdd, Nat.zero_add, List.range, List.range.loop])
    (co_applyP quits_val rfl rfl (by k_ne) ?_ ?_ ?_; (focus (intro _ K hK; go_simp; (try w_num); (try simp only [xb0, xb1, xb2, xb3, xb4, xb5]); exact hK)); (focus (intro _; simp [go_sem, *]; done)); (try walk_nrm))
    (co_applyP quits_val rfl rfl (by k_ne) ?_ ?_ ?_; (focus (intro _ K hK; go_simp; (try w_num); (try simp only [xb0, xb1, xb2, xb3, xb4, xb5]); exact hK)); (focus (intro _; simp [go_sem, *]; done)); (try walk_nrm))
    (co_applyP quits_val rfl rfl (by k_ne) ?_ ?_ ?_; (focus (intro _ K hK; go_simp; (try w_num); (try simp only [xb0, xb1, xb2, xb3, xb4, xb5]); exact hK)); (focus (intro _; simp [go_sem, *]; done)); (try walk_nrm))
    (co_applyP quits_val rfl rfl (by k_ne) ?_ ?_ ?_; (focus (intro _ K hK; go_simp; (try w_num); (try simp only [xb0, xb1, xb2, xb3, xb4, xb5]); exact hK)); (focus (intro _; simp [go_sem, *]; done)); (try walk_nrm))
    (co_applyP quits_val rfl rfl (by k_ne) ?_ ?_ ?_; (focus (intro _ K hK; go_simp; (try w_num); (try simp only [xb0, xb1, xb2, xb3, xb4, xb5]); exact hK)); (focus (intro _; simp [go_sem, *]; done)); (try walk_nrm))
    (refine QuitsD.unwanted rfl rfl ?_; (try walk_nrm))
    (refine QuitsD.unwanted rfl rfl ?_; (try walk_nrm))
    (refine QuitsD.unwanted rfl rfl ?_; (try walk_nrm))
    (refine QuitsD.unwanted rfl rfl ?_; (try walk_nrm))
    (co_applyP quits_val rfl rfl (by k_ne) ?_ ?_ ?_; (focus (intro _ K hK; go_simp; (try w_num); (try simp only [xb0, xb1, xb2, xb3, xb4, xb5]); exact hK)); (focus (intro _; simp [go_sem, *]; done)); (try walk_nrm))
    with_reducible refine QuitsD.ctl (G_running _ _) (fun _ => stepG_region_end) ?_
    (refine QuitsD.ctl rfl (fun _ => stepG_cond (t := false) rfl) ?_; simp only [if_true, if_false, Bool.false_eq_true, ↓reduceIte])
    with_reducible refine QuitsD.ctl (G_running _ _) (fun _ => stepG_skip) ?_
    with_reducible refine QuitsD.ctl (G_running _ _) (fun _ => stepG_seq) ?_
    with_reducible refine QuitsD.ctl (G_running _ _) (fun _ => stepG_seq) ?_
    ((with_reducible refine QuitsD.ctl (G_running _ _) (fun _ => stepG_region) ?_); simp only [List.size_toArray, List.length_cons, List.length_nil, Nat.reduceAdd, Nat.zero_add, List.range, List.range.loop])
    (co_applyP quits_val rfl rfl (by k_ne) ?_ ?_ ?_; (focus (intro _ K hK; go_simp; (try w_num); (try simp only [xb0, xb1, xb2, xb3, xb4, xb5]); exact hK)); (focus (intro _; simp [go_sem, *]; done)); (try walk_nrm))
    (co_applyP quits_val rfl rfl (by k_ne) ?_ ?_ ?_; (focus (intro _ K hK; go_simp; (try w_num); (try simp only [xb0, xb1, xb2, xb3, xb4, xb5]); exact hK)); (focus (intro _; simp [go_sem, *]; done)); (try walk_nrm))
    with_reducible refine QuitsD.ctl (G_running _ _) (fun _ => stepG_region_end) ?_
    (refine QuitsD.ctl rfl (fun _ => stepG_cond (t := false) rfl) ?_; simp only [if_true, if_false, Bool.false_eq_true, ↓reduceIte])
    with_reducible refine QuitsD.ctl (G_running _ _) (fun _ => stepG_skip) ?_
    with_reducible refine QuitsD.ctl (G_running _ _) (fun _ => stepG_seq) ?_
    with_reducible refine QuitsD.ctl (G_running _ _) (fun _ => stepG_seq) ?_
    ((with_reducible refine QuitsD.ctl (G_running _ _) (fun _ => stepG_region) ?_); simp only [List.size_toArray, List.length_cons, List.length_nil, Nat.reduceAdd, Nat.zero_add, List.range, List.range.loop])
    (co_applyP quits_val rfl rfl (by k_ne) ?_ ?_ ?_; (focus (intro _ K hK; go_simp; (try w_num); (try simp only [xb0, xb1, xb2, xb3, xb4, xb5]); exact hK)); (focus (intro _; simp [go_sem, *]; done)); (try walk_nrm))
    (co_applyP quits_val rfl rfl (by k_ne) ?_ ?_ ?_; (focus (intro _ K hK; go_simp; (try w_num); (try simp only [xb0, xb1, xb2, xb3, xb4, xb5]); exact hK)); (focus (intro _; simp [go_sem, *]; done)); (try walk_nrm))
    (co_applyP quits_val rfl rfl (by k_ne) ?_ ?_ ?_; (focus (intro _ K hK; go_simp; (try w_num); (try simp only [xb0, xb1, xb2, xb3, xb4, xb5]); exact hK)); (focus (intro _; simp [go_sem, *]; done)); (try walk_nrm))
    (co_applyP quits_val rfl rfl (by k_ne) ?_ ?_ ?_; (focus (intro _ K hK; go_simp; (try w_num); (try simp only [xb0, xb1, xb2, xb3, xb4, xb5]); exact hK)); (focus (intro _; simp [go_sem, *]; done)); (try walk_nrm))
    (co_applyP quits_val rfl rfl (by k_ne) ?_ ?_ ?_; (focus (intro _ K hK; go_simp; (try w_num); (try simp only [xb0, xb1, xb2, xb3, xb4, xb5]); exact hK)); (focus (intro _; simp [go_sem, *]; done)); (try walk_nrm))
    (co_applyP quits_val rfl rfl (by k_ne) ?_ ?_ ?_; (focus (intro _ K hK; go_simp; (try w_num); (try simp only [xb0, xb1, xb2, xb3, xb4, xb5]); exact hK)); (focus (intro _; simp [go_sem, *]; done)); (try walk_nrm))
    (co_applyP quits_val rfl rfl (by k_ne) ?_ ?_ ?_; (focus (intro _ K hK; go_simp; (try w_num); (try simp only [xb0, xb1, xb2, xb3, xb4, xb5]); exact hK)); (focus (intro _; simp [go_sem, *]; done)); (try walk_nrm))
    (refine QuitsD.unwanted rfl rfl ?_; (try walk_nrm))
    (refine QuitsD.unwanted rfl rfl ?_; (try walk_nrm))
    (refine QuitsD.unwanted rfl rfl ?_; (try walk_nrm))
    (refine QuitsD.unwanted rfl rfl ?_; (try walk_nrm))
    (co_applyP quits_val rfl rfl (by k_ne) ?_ ?_ ?_; (focus (intro _ K hK; go_simp; (try w_num); (try simp only [xb0, xb1, xb2, xb3, xb4, xb5]); exact hK)); (focus (intro _; simp [go_sem, *]; done)); (try walk_nrm))
    with_reducible refine QuitsD.ctl (G_running _ _) (fun _ => stepG_region_end) ?_
    (refine QuitsD.ctl rfl (fun _ => stepG_cond (t := false) rfl) ?_; simp only [if_true, if_false, Bool.false_eq_true, ↓reduceIte])
    with_reducible refine QuitsD.ctl (G_running _ _) (fun _ => stepG_skip) ?_
    with_reducible refine QuitsD.ctl (G_running _ _) (fun _ => stepG_seq) ?_
    with_reducible refine QuitsD.ctl (G_running _ _) (fun _ => stepG_seq) ?_
    ((with_reducible refine QuitsD.ctl (G_running _ _) (fun _ => stepG_region) ?_); simp only [List.size_toArray, List.length_cons, List.length_nil, Nat.reduceAdd, Nat.zero_add, List.range, List.range.loop])
    (co_applyP quits_val rfl rfl (by k_ne) ?_ ?_ ?_; (focus (intro _ K hK; go_simp; (try w_num); (try simp only [xb0, xb1, xb2, xb3, xb4, xb5]); exact hK)); (focus (intro _; simp [go_sem, *]; done)); (try walk_nrm))
    (co_applyP quits_val rfl rfl (by k_ne) ?_ ?_ ?_; (focus (intro _ K hK; go_simp; (try w_num); (try simp only [xb0, xb1, xb2, xb3, xb4, xb5]); exact hK)); (focus (intro _; simp [go_sem, *]; done)); (try walk_nrm))
    (co_applyP quits_val rfl rfl (by k_ne) ?_ ?_ ?_; (focus (intro _ K hK; go_simp; (try w_num); (try simp only [xb0, xb1, xb2, xb3, xb4, xb5]); exact hK)); (focus (intro _; simp [go_sem, *]; done)); (try walk_nrm))
    (refine QuitsD.unwanted rfl rfl ?_; (try walk_nrm))
    (refine QuitsD.unwanted rfl rfl ?_; (try walk_nrm))
    (co_applyP quits_val rfl rfl (by k_ne) ?_ ?_ ?_; (focus (intro _ K hK; go_simp; (try w_num); (try simp only [xb0, xb1, xb2, xb3, xb4, xb5]); exact hK)); (focus (intro _; simp [go_sem, *]; done)); (try walk_nrm))
    with_reducible refine QuitsD.ctl (G_running _ _) (fun _ => stepG_region_end) ?_
    (refine QuitsD.ctl rfl (fun _ => stepG_cond (t := true) rfl) ?_; simp only [if_true, if_false, Bool.false_eq_true, ↓reduceIte])
    with_reducible refine QuitsD.ctl (G_running _ _) (fun _ => stepG_ret') ?_
    (refine QuitsD.unwind_mark .enable rfl (by simp) rfl H.f_enable (x_enable_n Tryz.link) (x_enable_b Tryz.link) (x_enable_x Tryz.link) (x_enable_f Tryz.link) ?_; simp only [deafBehind_enable, Nat.sub_self, Nat.reduceSub])
    (refine QuitsD.leave0 rfl rfl Tryz.func23 rfl ?_; (try walk_nrm))
    with_reducible refine QuitsD.ctl (G_running _ _) (fun _ => stepG_region_end) ?_
    with_reducible refine QuitsD.ctl (G_running _ _) (fun _ => stepG_end) ?_
    exact QuitsD.leaveD rfl rfl Tryz.func25 rfl hcm (quits_le hT (by omega))
  · refine ⟨_, (stepG_add_atomic rfl rfl (by k_ne) rfl H.f_addU64 (x_addU64_n Tryz.link) (x_addU64_b Tryz.link) (x_addU64_x Tryz.link) .u64 (x_addU64_f Tryz.link) rfl rfl hw.cellSt (hw.thaw 0)).trans rfl, fun h => absurd h (by decide), fun _ => ⟨qt + 200, ?_⟩⟩
    walk_nrm
    have e0 : IntKind.u64.wrap ((((2 : Nat) : Int) + 1) * KK + ((0 : Nat) : Int) + 18446744069414584320) = 8589934592 := by decide
    simp only [e0]
    (co_applyP quits_val rfl rfl (by k_ne) ?_ ?_ ?_; (focus (intro _ K hK; go_simp; (try w_num); (try simp only [xb0, xb1, xb2, xb3, xb4, xb5]); exact hK)); (focus (intro _; simp [go_sem, *]; done)); (try walk_nrm))
    with_reducible refine QuitsD.ctl (G_running _ _) (fun _ => stepG_region_end) ?_
    with_reducible refine QuitsD.ctl (G_running _ _) (fun _ => stepG_ret') ?_
    (refine QuitsD.leave1 rfl rfl Tryz.func38 rfl ?_; (try walk_nrm))
    (co_applyP quits_val rfl rfl (by k_ne) ?_ ?_ ?_; (focus (intro _ K hK; go_simp; (try w_num); (try simp only [xb0, xb1, xb2, xb3, xb4, xb5]); exact hK)); (focus (intro _; simp [go_sem, *]; done)); (try walk_nrm))
    with_reducible refine QuitsD.ctl (G_running _ _) (fun _ => stepG_region_end) ?_
    with_reducible refine QuitsD.ctl (G_running _ _) (fun _ => stepG_seq) ?_
    with_reducible refine QuitsD.ctl (G_running _ _) (fun _ => stepG_seq) ?_
    ((with_reducible refine QuitsD.ctl (G_running _ _) (fun _ => stepG_region) ?_); simp only [List.size_toArray, List.length_cons, List.length_nil, Nat.reduceAdd, Nat.zero_add, List.range, List.range.loop])
    (co_applyP quits_val rfl rfl (by k_ne) ?_ ?_ ?_; (focus (intro _ K hK; go_simp; (try w_num); (try simp only [xb0, xb1, xb2, xb3, xb4, xb5]); exact hK)); (focus (intro _; simp [go_sem, *]; done)); (try walk_nrm))
    (co_applyP quits_val rfl rfl (by k_ne) ?_ ?_ ?_; (focus (intro _ K hK; go_simp; (try w_num); (try simp only [xb0, xb1, xb2, xb3, xb4, xb5]); exact hK)); (focus (intro _; simp [go_sem, *]; done)); (try walk_nrm))
    (co_applyP quits_val rfl rfl (by k_ne) ?_ ?_ ?_; (focus (intro _ K hK; go_simp; (try w_num); (try simp only [xb0, xb1, xb2, xb3, xb4, xb5]); exact hK)); (focus (intro _; simp [go_sem, *]; done)); (try walk_nrm))
    (co_applyP quits_val rfl rfl (by k_ne) ?_ ?_ ?_; (focus (intro _ K hK; go_simp; (try w_num); (try simp only [xb0, xb1, xb2, xb3, xb4, xb5]); exact hK)); (focus (intro _; simp [go_sem, *]; done)); (try walk_nrm))
    (refine QuitsD.unwanted rfl rfl ?_; (try walk_nrm))
    (refine QuitsD.unwanted rfl rfl ?_; (try walk_nrm))
    (co_applyP quits_val rfl rfl (by k_ne) ?_ ?_ ?_; (focus (intro _ K hK; go_simp; (try w_num); (try simp only [xb0, xb1, xb2, xb3, xb4, xb5]); exact hK)); (focus (intro _; simp [go_sem, *]; done)); (try walk_nrm))
    with_reducible refine QuitsD.ctl (G_running _ _) (fun _ => stepG_region_end) ?_
    (refine QuitsD.ctl rfl (fun _ => stepG_cond (t := false) rfl) ?_; simp only [if_true, if_false, Bool.false_eq_true, ↓reduceIte])
    with_reducible refine QuitsD.ctl (G_running _ _) (fun _ => stepG_skip) ?_
    with_reducible refine QuitsD.ctl (G_running _ _) (fun _ => stepG_seq) ?_
    ((with_reducible refine QuitsD.ctl (G_running _ _) (fun _ => stepG_region) ?_); simp only [List.size_toArray, List.length_cons, List.length_nil, Nat.reduceAdd, Nat.zero_add, List.range, List.range.loop])
    (co_applyP quits_val rfl rfl (by k_ne) ?_ ?_ ?_; (focus (intro _ K hK; go_simp; (try w_num); (try simp only [xb0, xb1, xb2, xb3, xb4, xb5]); exact hK)); (focus (intro _; simp [go_sem, *]; done)); (try walk_nrm))
    (co_applyP quits_val rfl rfl (by k_ne) ?_ ?_ ?_; (focus (intro _ K hK; go_simp; (try w_num); (try simp only [xb0, xb1, xb2, xb3, xb4, xb5]); exact hK)); (focus (intro _; simp [go_sem, *]; done)); (try walk_nrm))
    (co_applyP quits_val rfl rfl (by k_ne) ?_ ?_ ?_; (focus (intro _ K hK; go_simp; (try w_num); (try simp only [xb0, xb1, xb2, xb3, xb4, xb5]); exact hK)); (focus (intro _; simp [go_sem, *]; done)); (try walk_nrm))
    (co_applyP quits_val rfl rfl (by k_ne) ?_ ?_ ?_; (focus (intro _ K hK; go_simp; (try w_num); (try simp only [xb0, xb1, xb2, xb3, xb4, xb5]); exact hK)); (focus (intro _; simp [go_sem, *]; done)); (try walk_nrm))
    with_reducible refine QuitsD.ctl (G_running _ _) (fun _ => stepG_region_end) ?_
    with_reducible refine QuitsD.ctl (G_running _ _) (fun _ => stepG_seq) ?_
    ((with_reducible refine QuitsD.ctl (G_running _ _) (fun _ => stepG_region) ?_); simp only [List.size_toArray, List.length_cons, List.length_nil, Nat.reduceAdd, Nat.zero_add, List.range, List.range.loop])
    (co_applyP quits_val rfl rfl (by k_ne) ?_ ?_ ?_; (focus (intro _ K hK; go_simp; (try w_num); (try simp only [xb0, xb1, xb2, xb3, xb4, xb5]); exact hK)); (focus (intro _; simp [go_sem, *]; done)); (try walk_nrm))
    (co_applyP quits_val rfl rfl (by k_ne) ?_ ?_ ?_; (focus (intro _ K hK; go_simp; (try w_num); (try simp only [xb0, xb1, xb2, xb3, xb4, xb5]); exact hK)); (focus (intro _; simp [go_sem, *]; done)); (try walk_nrm))
    (co_applyP quits_val rfl rfl (by k_ne) ?_ ?_ ?_; (focus (intro _ K hK; go_simp; (try w_num); (try simp only [xb0, xb1, xb2, xb3, xb4, xb5]); exact hK)); (focus (intro _; simp [go_sem, *]; done)); (try walk_nrm))
    (co_applyP quits_val rfl rfl (by k_ne) ?_ ?_ ?_; (focus (intro _ K hK; go_simp; (try w_num); (try simp only [xb0, xb1, xb2, xb3, xb4, xb5]); exact hK)); (focus (intro _; simp [go_sem, *]; done)); (try walk_nrm))
    with_reducible refine QuitsD.ctl (G_running _ _) (fun _ => stepG_region_end) ?_
    with_reducible refine QuitsD.ctl (G_running _ _) (fun _ => stepG_seq) ?_
    with_reducible refine QuitsD.ctl (G_running _ _) (fun _ => stepG_seq) ?_
    ((with_reducible refine QuitsD.ctl (G_running _ _) (fun _ => stepG_region) ?_); simp only [List.size_toArray, List.length_cons, List.length_nil, Nat.reduceAdd, Nat.zero_add, List.range, List.range.loop])
    (co_applyP quits_val rfl rfl (by k_ne) ?_ ?_ ?_; (focus (intro _ K hK; go_simp; (try w_num); (try simp only [xb0, xb1, xb2, xb3, xb4, xb5]); exact hK)); (focus (intro _; simp [go_sem, *]; done)); (try walk_nrm))
    (co_applyP quits_val rfl rfl (by k_ne) ?_ ?_ ?_; (focus (intro _ K hK; go_simp; (try w_num); (try simp only [xb0, xb1, xb2, xb3, xb4, xb5]); exact hK)); (focus (intro _; simp [go_sem, *]; done)); (try walk_nrm))
    (co_applyP quits_val rfl rfl (by k_ne) ?_ ?_ ?_; (focus (intro _ K hK; go_simp; (try w_num); (try simp only [xb0, xb1, xb2, xb3, xb4, xb5]); exact hK)); (focus (intro _; simp [go_sem, *]; done)); (try walk_nrm))
    (co_applyP quits_val rfl rfl (by k_ne) ?_ ?_ ?_; (focus (intro _ K hK; go_simp; (try w_num); (try simp only [xb0, xb1, xb2, xb3, xb4, xb5]); exact hK)); (focus (intro _; simp [go_sem, *]; done)); (try walk_nrm))
    (co_applyP quits_val rfl rfl (by k_ne) ?_ ?_ ?_; (focus (intro _ K hK; go_simp; (try w_num); (try simp only [xb0, xb1, xb2, xb3, xb4, xb5]); exact hK)); (focus (intro _; simp [go_sem, *]; done)); (try walk_nrm))
    (refine QuitsD.unwanted rfl rfl ?_; (try walk_nrm))
    (refine QuitsD.unwanted rfl rfl ?_; (try walk_nrm))
    (refine QuitsD.unwanted rfl rfl ?_; (try walk_nrm))
    (refine QuitsD.unwanted rfl rfl ?_; (try walk_nrm))
    (co_applyP quits_val rfl rfl (by k_ne) ?_ ?_ ?_; (focus (intro _ K hK; go_simp; (try w_num); (try simp only [xb0, xb1, xb2, xb3, xb4, xb5]); exact hK)); (focus (intro _; simp [go_sem, *]; done)); (try walk_nrm))
    with_reducible refine QuitsD.ctl (G_running _ _) (fun _ => stepG_region_end) ?_
    (refine QuitsD.ctl rfl (fun _ => stepG_cond (t := false) rfl) ?_; simp only [if_true, if_false, Bool.false_eq_true, ↓reduceIte])
    with_reducible refine QuitsD.ctl (G_running _ _) (fun _ => stepG_skip) ?_
    with_reducible refine QuitsD.ctl (G_running _ _) (fun _ => stepG_seq) ?_
    with_reducible refine QuitsD.ctl (G_running _ _) (fun _ => stepG_seq) ?_
    ((with_reducible refine QuitsD.ctl (G_running _ _) (fun _ => stepG_region) ?_); simp only [List.size_toArray, List.length_cons, List.length_nil, Nat.reduceAdd, Nat.zero_add, List.range, List.range.loop])
    (co_applyP quits_val rfl rfl (by k_ne) ?_ ?_ ?_; (focus (intro _ K hK; go_simp; (try w_num); (try simp only [xb0, xb1, xb2, xb3, xb4, xb5]); exact hK)); (focus (intro _; simp [go_sem, *]; done)); (try walk_nrm))
    (co_applyP quits_val rfl rfl (by k_ne) ?_ ?_ ?_; (focus (intro _ K hK; go_simp; (try w_num); (try simp only [xb0, xb1, xb2, xb3, xb4, xb5]); exact hK)); (focus (intro _; simp [go_sem, *]; done)); (try walk_nrm))
    with_reducible refine QuitsD.ctl (G_running _ _) (fun _ => stepG_region_end) ?_
    (refine QuitsD.ctl rfl (fun _ => stepG_cond (t := false) rfl) ?_; simp only [if_true, if_false, Bool.false_eq_true, ↓reduceIte])
    with_reducible refine QuitsD.ctl (G_running _ _) (fun _ => stepG_skip) ?_
    with_reducible refine QuitsD.ctl (G_running _ _) (fun _ => stepG_seq) ?_
    with_reducible refine QuitsD.ctl (G_running _ _) (fun _ => stepG_seq) ?_
    ((with_reducible refine QuitsD.ctl (G_running _ _) (fun _ => stepG_region) ?_); simp only [List.size_toArray, List.length_cons, List.length_nil, Nat.reduceAdd, Nat.zero_add, List.range, List.range.loop])
    (co_applyP quits_val rfl rfl (by k_ne) ?_ ?_ ?_; (focus (intro _ K hK; go_simp; (try w_num); (try simp only [xb0, xb1, xb2, xb3, xb4, xb5]); exact hK)); (focus (intro _; simp [go_sem, *]; done)); (try walk_nrm))
    (co_applyP quits_val rfl rfl (by k_ne) ?_ ?_ ?_; (focus (intro _ K hK; go_simp; (try w_num); (try simp only [xb0, xb1, xb2, xb3, xb4, xb5]); exact hK)); (focus (intro _; simp [go_sem, *]; done)); (try walk_nrm))
    (co_applyP quits_val rfl rfl (by k_ne) ?_ ?_ ?_; (focus (intro _ K hK; go_simp; (try w_num); (try simp only [xb0, xb1, xb2, xb3, xb4, xb5]); exact hK)); (focus (intro _; simp [go_sem, *]; done)); (try walk_nrm))
    (refine QuitsD.unwanted rfl rfl ?_; (try walk_nrm))
    (refine QuitsD.unwanted rfl rfl ?_; (try walk_nrm))
    (co_applyP quits_val rfl rfl (by k_ne) ?_ ?_ ?_; (focus (intro _ K hK; go_simp; (try w_num); (try simp only [xb0, xb1, xb2, xb3, xb4, xb5]); exact hK)); (focus (intro _; simp [go_sem, *]; done)); (try walk_nrm))
    (co_applyP quits_val rfl rfl (by k_ne) ?_ ?_ ?_; (focus (intro _ K hK; go_simp; (try w_num); (try simp only [xb0, xb1, xb2, xb3, xb4, xb5]); exact hK)); (focus (intro _; simp [go_sem, *]; done)); (try walk_nrm))
    (refine QuitsD.unwanted rfl rfl ?_; (try walk_nrm))
    (refine QuitsD.unwanted rfl rfl ?_; (try walk_nrm))
    (refine QuitsD.unwanted rfl rfl ?_; (try walk_nrm))
    (refine QuitsD.unwanted rfl rfl ?_; (try walk_nrm))
    (co_applyP quits_val rfl rfl (by k_ne) ?_ ?_ ?_; (focus (intro _ K hK; go_simp; (try w_num); (try simp only [xb0, xb1, xb2, xb3, xb4, xb5]); exact hK)); (focus (intro _; simp [go_sem, *]; done)); (try walk_nrm))
    with_reducible refine QuitsD.ctl (G_running _ _) (fun _ => stepG_region_end) ?_
    (refine QuitsD.ctl rfl (fun _ => stepG_cond (t := false) rfl) ?_; simp only [if_true, if_false, Bool.false_eq_true, ↓reduceIte])
    with_reducible refine QuitsD.ctl (G_running _ _) (fun _ => stepG_skip) ?_
    with_reducible refine QuitsD.ctl (G_running _ _) (fun _ => stepG_seq) ?_
    with_reducible refine QuitsD.ctl (G_running _ _) (fun _ => stepG_seq) ?_
    ((with_reducible refine QuitsD.ctl (G_running _ _) (fun _ => stepG_region) ?_); simp only [List.size_toArray, List.length_cons, List.length_nil, Nat.reduceAdd, Nat.zero_add, List.range, List.range.loop])
    (co_applyP quits_val rfl rfl (by k_ne) ?_ ?_ ?_; (focus (intro _ K hK; go_simp; (try w_num); (try simp only [xb0, xb1, xb2, xb3, xb4, xb5]); exact hK)); (focus (intro _; simp [go_sem, *]; done)); (try walk_nrm))
    (co_applyP quits_val rfl rfl (by k_ne) ?_ ?_ ?_; (focus (intro _ K hK; go_simp; (try w_num); (try simp only [xb0, xb1, xb2, xb3, xb4, xb5]); exact hK)); (focus (intro _; simp [go_sem, *]; done)); (try walk_nrm))
    (co_applyP quits_val rfl rfl (by k_ne) ?_ ?_ ?_; (focus (intro _ K hK; go_simp; (try w_num); (try simp only [xb0, xb1, xb2, xb3, xb4, xb5]); exact hK)); (focus (intro _; simp [go_sem, *]; done)); (try walk_nrm))
    (refine QuitsD.unwanted rfl rfl ?_; (try walk_nrm))
    (refine QuitsD.unwanted rfl rfl ?_; (try walk_nrm))
    (co_applyP quits_val rfl rfl (by k_ne) ?_ ?_ ?_; (focus (intro _ K hK; go_simp; (try w_num); (try simp only [xb0, xb1, xb2, xb3, xb4, xb5]); exact hK)); (focus (intro _; simp [go_sem, *]; done)); (try walk_nrm))
    with_reducible refine QuitsD.ctl (G_running _ _) (fun _ => stepG_region_end) ?_
    (refine QuitsD.ctl rfl (fun _ => stepG_cond (t := true) rfl) ?_; simp only [if_true, if_false, Bool.false_eq_true, ↓reduceIte])
    with_reducible refine QuitsD.ctl (G_running _ _) (fun _ => stepG_ret') ?_
    (refine QuitsD.unwind_mark .enable rfl (by simp) rfl H.f_enable (x_enable_n Tryz.link) (x_enable_b Tryz.link) (x_enable_x Tryz.link) (x_enable_f Tryz.link) ?_; simp only [deafBehind_enable, Nat.sub_self, Nat.reduceSub])
    (refine QuitsD.leave0 rfl rfl Tryz.func23 rfl ?_; (try walk_nrm))
    with_reducible refine QuitsD.ctl (G_running _ _) (fun _ => stepG_region_end) ?_
    with_reducible refine QuitsD.ctl (G_running _ _) (fun _ => stepG_end) ?_
    exact QuitsD.leaveD rfl rfl Tryz.func25 rfl hcm (quits_le hT (by omega))
  · refine ⟨_, (stepG_add_atomic rfl rfl (by k_ne) rfl H.f_addU64 (x_addU64_n Tryz.link) (x_addU64_b Tryz.link) (x_addU64_x Tryz.link) .u64 (x_addU64_f Tryz.link) rfl rfl hw.cellSt (hw.thaw 0)).trans rfl, fun h => absurd h (by decide), fun _ => ⟨qt + 200, ?_⟩⟩
    walk_nrm
    have e0 : IntKind.u64.wrap ((((2 : Nat) : Int) + 1) * KK + ((1 : Nat) : Int) + 18446744069414584320) = 8589934593 := by decide
    simp only [e0]
    (co_applyP quits_val rfl rfl (by k_ne) ?_ ?_ ?_; (focus (intro _ K hK; go_simp; (try w_num); (try simp only [xb0, xb1, xb2, xb3, xb4, xb5]); exact hK)); (focus (intro _; simp [go_sem, *]; done)); (try walk_nrm))
    with_reducible refine QuitsD.ctl (G_running _ _) (fun _ => stepG_region_end) ?_
    with_reducible refine QuitsD.ctl (G_running _ _) (fun _ => stepG_ret') ?_
    (refine QuitsD.leave1 rfl rfl Tryz.func38 rfl ?_; (try walk_nrm))
    (co_applyP quits_val rfl rfl (by k_ne) ?_ ?_ ?_; (focus (intro _ K hK; go_simp; (try w_num); (try simp only [xb0, xb1, xb2, xb3, xb4, xb5]); exact hK)); (focus (intro _; simp [go_sem, *]; done)); (try walk_nrm))
    with_reducible refine QuitsD.ctl (G_running _ _) (fun _ => stepG_region_end) ?_
    with_reducible refine QuitsD.ctl (G_running _ _) (fun _ => stepG_seq) ?_
    with_reducible refine QuitsD.ctl (G_running _ _) (fun _ => stepG_seq) ?_
    ((with_reducible refine QuitsD.ctl (G_running _ _) (fun _ => stepG_region) ?_); simp only [List.size_toArray, List.length_cons, List.length_nil, Nat.reduceAdd, Nat.zero_add, List.range, List.range.loop])
    (co_applyP quits_val rfl rfl (by k_ne) ?_ ?_ ?_; (focus (intro _ K hK; go_simp; (try w_num); (try simp only [xb0, xb1, xb2, xb3, xb4, xb5]); exact hK)); (focus (intro _; simp [go_sem, *]; done)); (try walk_nrm))
    (co_applyP quits_val rfl rfl (by k_ne) ?_ ?_ ?_; (focus (intro _ K hK; go_simp; (try w_num); (try simp only [xb0, xb1, xb2, xb3, xb4, xb5]); exact hK)); (focus (intro _; simp [go_sem, *]; done)); (try walk_nrm))
    (co_applyP quits_val rfl rfl (by k_ne) ?_ ?_ ?_; (focus (intro _ K hK; go_simp; (try w_num); (try simp only [xb0, xb1, xb2, xb3, xb4, xb5]); exact hK)); (focus (intro _; simp [go_sem, *]; done)); (try walk_nrm))
    (co_applyP quits_val rfl rfl (by k_ne) ?_ ?_ ?_; (focus (intro _ K hK; go_simp; (try w_num); (try simp only [xb0, xb1, xb2, xb3, xb4, xb5]); exact hK)); (focus (intro _; simp [go_sem, *]; done)); (try walk_nrm))
    (refine QuitsD.unwanted rfl rfl ?_; (try walk_nrm))
    (refine QuitsD.unwanted rfl rfl ?_; (try walk_nrm))
    (co_applyP quits_val rfl rfl (by k_ne) ?_ ?_ ?_; (focus (intro _ K hK; go_simp; (try w_num); (try simp only [xb0, xb1, xb2, xb3, xb4, xb5]); exact hK)); (focus (intro _; simp [go_sem, *]; done)); (try walk_nrm))
    with_reducible refine QuitsD.ctl (G_running _ _) (fun _ => stepG_region_end) ?_
    (refine QuitsD.ctl rfl (fun _ => stepG_cond (t := false) rfl) ?_; simp only [if_true, if_false, Bool.false_eq_true, ↓reduceIte])
    with_reducible refine QuitsD.ctl (G_running _ _) (fun _ => stepG_skip) ?_
    with_reducible refine QuitsD.ctl (G_running _ _) (fun _ => stepG_seq) ?_
    ((with_reducible refine QuitsD.ctl (G_running _ _) (fun _ => stepG_region) ?_); simp only [List.size_toArray, List.length_cons, List.length_nil, Nat.reduceAdd, Nat.zero_add, List.range, List.range.loop])
    (co_applyP quits_val rfl rfl (by k_ne) ?_ ?_ ?_; (focus (intro _ K hK; go_simp; (try w_num); (try simp only [xb0, xb1, xb2, xb3, xb4, xb5]); exact hK)); (focus (intro _; simp [go_sem, *]; done)); (try walk_nrm))
    (co_applyP quits_val rfl rfl (by k_ne) ?_ ?_ ?_; (focus (intro _ K hK; go_simp; (try w_num); (try simp only [xb0, xb1, xb2, xb3, xb4, xb5]); exact hK)); (focus (intro _; simp [go_sem, *]; done)); (try walk_nrm))
    (co_applyP quits_val rfl rfl (by k_ne) ?_ ?_ ?_; (focus (intro _ K hK; go_simp; (try w_num); (try simp only [xb0, xb1, xb2, xb3, xb4, xb5]); exact hK)); (focus (intro _; simp [go_sem, *]; done)); (try walk_nrm))
    (co_applyP quits_val rfl rfl (by k_ne) ?_ ?_ ?_; (focus (intro _ K hK; go_simp; (try w_num); (try simp only [xb0, xb1, xb2, xb3, xb4, xb5]); exact hK)); (focus (intro _; simp [go_sem, *]; done)); (try walk_nrm))
    with_reducible refine QuitsD.ctl (G_running _ _) (fun _ => stepG_region_end) ?_
    with_reducible refine QuitsD.ctl (G_running _ _) (fun _ => stepG_seq) ?_
    ((with_reducible refine QuitsD.ctl (G_running _ _) (fun _ => stepG_region) ?_); simp only [List.size_toArray, List.length_cons, List.length_nil, Nat.reduceAdd, Nat.zero_add, List.range, List.range.loop])
    (co_applyP quits_val rfl rfl (by k_ne) ?_ ?_ ?_; (focus (intro _ K hK; go_simp; (try w_num); (try simp only [xb0, xb1, xb2, xb3, xb4, xb5]); exact hK)); (focus (intro _; simp [go_sem, *]; done)); (try walk_nrm))
    (co_applyP quits_val rfl rfl (by k_ne) ?_ ?_ ?_; (focus (intro _ K hK; go_simp; (try w_num); (try simp only [xb0, xb1, xb2, xb3, xb4, xb5]); exact hK)); (focus (intro _; simp [go_sem, *]; done)); (try walk_nrm))
    (co_applyP quits_val rfl rfl (by k_ne) ?_ ?_ ?_; (focus (intro _ K hK; go_simp; (try w_num); (try simp only [xb0, xb1, xb2, xb3, xb4, xb5]); exact hK)); (focus (intro _; simp [go_sem, *]; done)); (try walk_nrm))
    (co_applyP quits_val rfl rfl (by k_ne) ?_ ?_ ?_; (focus (intro _ K hK; go_simp; (try w_num); (try simp only [xb0, xb1, xb2, xb3, xb4, xb5]); exact hK)); (focus (intro _; simp [go_sem, *]; done)); (try walk_nrm))
    with_reducible refine QuitsD.ctl (G_running _ _) (fun _ => stepG_region_end) ?_
    with_reducible refine QuitsD.ctl (G_running _ _) (fun _ => stepG_seq) ?_
    with_reducible refine QuitsD.ctl (G_running _ _) (fun _ => stepG_seq) ?_
    ((with_reducible refine QuitsD.ctl (G_running _ _) (fun _ => stepG_region) ?_); simp only [List.size_toArray, List.length_cons, List.length_nil, Nat.reduceAdd, Nat.zero_add, List.range, List.range.loop])
    (co_applyP quits_val rfl rfl (by k_ne) ?_ ?_ ?_; (focus (intro _ K hK; go_simp; (try w_num); (try simp only [xb0, xb1, xb2, xb3, xb4, xb5]); exact hK)); (focus (intro _; simp [go_sem, *]; done)); (try walk_nrm))
    (co_applyP quits_val rfl rfl (by k_ne) ?_ ?_ ?_; (focus (intro _ K hK; go_simp; (try w_num); (try simp only [xb0, xb1, xb2, xb3, xb4, xb5]); exact hK)); (focus (intro _; simp [go_sem, *]; done)); (try walk_nrm))
    (co_applyP quits_val rfl rfl (by k_ne) ?_ ?_ ?_; (focus (intro _ K hK; go_simp; (try w_num); (try simp only [xb0, xb1, xb2, xb3, xb4, xb5]); exact hK)); (focus (intro _; simp [go_sem, *]; done)); (try walk_nrm))
    (co_applyP quits_val rfl rfl (by k_ne) ?_ ?_ ?_; (focus (intro _ K hK; go_simp; (try w_num); (try simp only [xb0, xb1, xb2, xb3, xb4, xb5]); exact hK)); (focus (intro _; simp [go_sem, *]; done)); (try walk_nrm))
    (co_applyP quits_val rfl rfl (by k_ne) ?_ ?_ ?_; (focus (intro _ K hK; go_simp; (try w_num); (try simp only [xb0, xb1, xb2, xb3, xb4, xb5]); exact hK)); (focus (intro _; simp [go_sem, *]; done)); (try walk_nrm))
    (refine QuitsD.unwanted rfl rfl ?_; (try walk_nrm))
    (refine QuitsD.unwanted rfl rfl ?_; (try walk_nrm))
    (refine QuitsD.unwanted rfl rfl ?_; (try walk_nrm))
    (refine QuitsD.unwanted rfl rfl ?_; (try walk_nrm))
    (co_applyP quits_val rfl rfl (by k_ne) ?_ ?_ ?_; (focus (intro _ K hK; go_simp; (try w_num); (try simp only [xb0, xb1, xb2, xb3, xb4, xb5]); exact hK)); (focus (intro _; simp [go_sem, *]; done)); (try walk_nrm))
    with_reducible refine QuitsD.ctl (G_running _ _) (fun _ => stepG_region_end) ?_
    (refine QuitsD.ctl rfl (fun _ => stepG_cond (t := false) rfl) ?_; simp only [if_true, if_false, Bool.false_eq_true, ↓reduceIte])
    with_reducible refine QuitsD.ctl (G_running _ _) (fun _ => stepG_skip) ?_
    with_reducible refine QuitsD.ctl (G_running _ _) (fun _ => stepG_seq) ?_
    with_reducible refine QuitsD.ctl (G_running _ _) (fun _ => stepG_seq) ?_
    ((with_reducible refine QuitsD.ctl (G_running _ _) (fun _ => stepG_region) ?_); simp only [List.size_toArray, List.length_cons, List.length_nil, Nat.reduceAdd, Nat.zero_add, List.range, List.range.loop])
    (co_applyP quits_val rfl rfl (by k_ne) ?_ ?_ ?_; (focus (intro _ K hK; go_simp; (try w_num); (try simp only [xb0, xb1, xb2, xb3, xb4, xb5]); exact hK)); (focus (intro _; simp [go_sem, *]; done)); (try walk_nrm))
    (co_applyP quits_val rfl rfl (by k_ne) ?_ ?_ ?_; (focus (intro _ K hK; go_simp; (try w_num); (try simp only [xb0, xb1, xb2, xb3, xb4, xb5]); exact hK)); (focus (intro _; simp [go_sem, *]; done)); (try walk_nrm))
    with_reducible refine QuitsD.ctl (G_running _ _) (fun _ => stepG_region_end) ?_
    (refine QuitsD.ctl rfl (fun _ => stepG_cond (t := false) rfl) ?_; simp only [if_true, if_false, Bool.false_eq_true, ↓reduceIte])
    with_reducible refine QuitsD.ctl (G_running _ _) (fun _ => stepG_skip) ?_
    with_reducible refine QuitsD.ctl (G_running _ _) (fun _ => stepG_seq) ?_
    with_reducible refine QuitsD.ctl (G_running _ _) (fun _ => stepG_seq) ?_
    ((with_reducible refine QuitsD.ctl (G_running _ _) (fun _ => stepG_region) ?_); simp only [List.size_toArray, List.length_cons, List.length_nil, Nat.reduceAdd, Nat.zero_add, List.range, List.range.loop])
    (co_applyP quits_val rfl rfl (by k_ne) ?_ ?_ ?_; (focus (intro _ K hK; go_simp; (try w_num); (try simp only [xb0, xb1, xb2, xb3, xb4, xb5]); exact hK)); (focus (intro _; simp [go_sem, *]; done)); (try walk_nrm))
    (co_applyP quits_val rfl rfl (by k_ne) ?_ ?_ ?_; (focus (intro _ K hK; go_simp; (try w_num); (try simp only [xb0, xb1, xb2, xb3, xb4, xb5]); exact hK)); (focus (intro _; simp [go_sem, *]; done)); (try walk_nrm))
    (co_applyP quits_val rfl rfl (by k_ne) ?_ ?_ ?_; (focus (intro _ K hK; go_simp; (try w_num); (try simp only [xb0, xb1, xb2, xb3, xb4, xb5]); exact hK)); (focus (intro _; simp [go_sem, *]; done)); (try walk_nrm))
    (co_applyP quits_val rfl rfl (by k_ne) ?_ ?_ ?_; (focus (intro _ K hK; go_simp; (try w_num); (try simp only [xb0, xb1, xb2, xb3, xb4, xb5]); exact hK)); (focus (intro _; simp [go_sem, *]; done)); (try walk_nrm))
    (co_applyP quits_val rfl rfl (by k_ne) ?_ ?_ ?_; (focus (intro _ K hK; go_simp; (try w_num); (try simp only [xb0, xb1, xb2, xb3, xb4, xb5]); exact hK)); (focus (intro _; simp [go_sem, *]; done)); (try walk_nrm))
    (co_applyP quits_val rfl rfl (by k_ne) ?_ ?_ ?_; (focus (intro _ K hK; go_simp; (try w_num); (try simp only [xb0, xb1, xb2, xb3, xb4, xb5]); exact hK)); (focus (intro _; simp [go_sem, *]; done)); (try walk_nrm))
    (co_applyP quits_val rfl rfl (by k_ne) ?_ ?_ ?_; (focus (intro _ K hK; go_simp; (try w_num); (try simp only [xb0, xb1, xb2, xb3, xb4, xb5]); exact hK)); (focus (intro _; simp [go_sem, *]; done)); (try walk_nrm))
    (refine QuitsD.unwanted rfl rfl ?_; (try walk_nrm))
    (refine QuitsD.unwanted rfl rfl ?_; (try walk_nrm))
    (refine QuitsD.unwanted rfl rfl ?_; (try walk_nrm))
    (refine QuitsD.unwanted rfl rfl ?_; (try walk_nrm))
    (co_applyP quits_val rfl rfl (by k_ne) ?_ ?_ ?_; (focus (intro _ K hK; go_simp; (try w_num); (try simp only [xb0, xb1, xb2, xb3, xb4, xb5]); exact hK)); (focus (intro _; simp [go_sem, *]; done)); (try walk_nrm))
    with_reducible refine QuitsD.ctl (G_running _ _) (fun _ => stepG_region_end) ?_
    (refine QuitsD.ctl rfl (fun _ => stepG_cond (t := false) rfl) ?_; simp only [if_true, if_false, Bool.false_eq_true, ↓reduceIte])
    with_reducible refine QuitsD.ctl (G_running _ _) (fun _ => stepG_skip) ?_
    with_reducible refine QuitsD.ctl (G_running _ _) (fun _ => stepG_seq) ?_
    with_reducible refine QuitsD.ctl (G_running _ _) (fun _ => stepG_seq) ?_
    ((with_reducible refine QuitsD.ctl (G_running _ _) (fun _ => stepG_region) ?_); simp only [List.size_toArray, List.length_cons, List.length_nil, Nat.reduceAdd, Nat.zero_add, List.range, List.range.loop])
    (co_applyP quits_val rfl rfl (by k_ne) ?_ ?_ ?_; (focus (intro _ K hK; go_simp; (try w_num); (try simp only [xb0, xb1, xb2, xb3, xb4, xb5]); exact hK)); (focus (intro _; simp [go_sem, *]; done)); (try walk_nrm))
    (co_applyP quits_val rfl rfl (by k_ne) ?_ ?_ ?_; (focus (intro _ K hK; go_simp; (try w_num); (try simp only [xb0, xb1, xb2, xb3, xb4, xb5]); exact hK)); (focus (intro _; simp [go_sem, *]; done)); (try walk_nrm))
    (co_applyP quits_val rfl rfl (by k_ne) ?_ ?_ ?_; (focus (intro _ K hK; go_simp; (try w_num); (try simp only [xb0, xb1, xb2, xb3, xb4, xb5]); exact hK)); (focus (intro _; simp [go_sem, *]; done)); (try walk_nrm))
    (refine QuitsD.unwanted rfl rfl ?_; (try walk_nrm))
    (refine QuitsD.unwanted rfl rfl ?_; (try walk_nrm))
    (co_applyP quits_val rfl rfl (by k_ne) ?_ ?_ ?_; (focus (intro _ K hK; go_simp; (try w_num); (try simp only [xb0, xb1, xb2, xb3, xb4, xb5]); exact hK)); (focus (intro _; simp [go_sem, *]; done)); (try walk_nrm))
    with_reducible refine QuitsD.ctl (G_running _ _) (fun _ => stepG_region_end) ?_
    (refine QuitsD.ctl rfl (fun _ => stepG_cond (t := true) rfl) ?_; simp only [if_true, if_false, Bool.false_eq_true, ↓reduceIte])
    with_reducible refine QuitsD.ctl (G_running _ _) (fun _ => stepG_ret') ?_
    (refine QuitsD.unwind_mark .enable rfl (by simp) rfl H.f_enable (x_enable_n Tryz.link) (x_enable_b Tryz.link) (x_enable_x Tryz.link) (x_enable_f Tryz.link) ?_; simp only [deafBehind_enable, Nat.sub_self, Nat.reduceSub])
    (refine QuitsD.leave0 rfl rfl Tryz.func23 rfl ?_; (try walk_nrm))
    with_reducible refine QuitsD.ctl (G_running _ _) (fun _ => stepG_region_end) ?_
    with_reducible refine QuitsD.ctl (G_running _ _) (fun _ => stepG_end) ?_
    exact QuitsD.leaveD rfl rfl Tryz.func25 rfl hcm (quits_le hT (by omega))
  · refine ⟨_, (stepG_add_atomic rfl rfl (by k_ne) rfl H.f_addU64 (x_addU64_n Tryz.link) (x_addU64_b Tryz.link) (x_addU64_x Tryz.link) .u64 (x_addU64_f Tryz.link) rfl rfl hw.cellSt (hw.thaw 0)).trans rfl, fun _ => ⟨300, ?_⟩, fun h => absurd h (by decide)⟩
    walk_nrm
    have e0 : IntKind.u64.wrap ((((0 : Nat) : Int) + 1) * KK + ((1 : Nat) : Int) + 18446744069414584320) = 1 := by decide
    have e1 : (((0 : Nat) : Int) * KK + ((1 : Nat) : Int)) = 1 := by decide
    simp only [e0, e1]
    have hwg : WgAt x.ty x.Wg (w₁.setCell (stA x.Wg) (.int .u64 1)) 1 0 := hw.setSt 1
    generalize w₁.setCell (stA x.Wg) (.int .u64 1) = w at hwg ⊢
    have T := tL x
    (co_applyP gd_val T rfl rfl (by k_ne) ?_ ?_ ?_; (focus (intro _ K hK; go_simp; (try w_num); exact hK)); (focus (intro _; simp [go_sem, *]; done)); (try walk_nrm))
    with_reducible refine gd_c T (G_running _ _) (fun _ => stepG_region_end) ?_
    with_reducible refine gd_c T (G_running _ _) (fun _ => stepG_ret') ?_
    (refine gd_leave1 T rfl rfl Tryz.func38 rfl ?_; (try walk_nrm))
    (co_applyP gd_val T rfl rfl (by k_ne) ?_ ?_ ?_; (focus (intro _ K hK; go_simp; (try w_num); exact hK)); (focus (intro _; simp [go_sem, *]; done)); (try walk_nrm))
    with_reducible refine gd_c T (G_running _ _) (fun _ => stepG_region_end) ?_
    with_reducible refine gd_c T (G_running _ _) (fun _ => stepG_seq) ?_
    with_reducible refine gd_c T (G_running _ _) (fun _ => stepG_seq) ?_
    ((with_reducible refine gd_c T (G_running _ _) (fun _ => stepG_region) ?_); simp only [List.size_toArray, List.length_cons, List.length_nil, Nat.reduceAdd, Nat.zero_add, List.range, List.range.loop])
    (co_applyP gd_val T rfl rfl (by k_ne) ?_ ?_ ?_; (focus (intro _ K hK; go_simp; (try w_num); exact hK)); (focus (intro _; simp [go_sem, *]; done)); (try walk_nrm))
    (co_applyP gd_val T rfl rfl (by k_ne) ?_ ?_ ?_; (focus (intro _ K hK; go_simp; (try w_num); exact hK)); (focus (intro _; simp [go_sem, *]; done)); (try walk_nrm))
    (co_applyP gd_val T rfl rfl (by k_ne) ?_ ?_ ?_; (focus (intro _ K hK; go_simp; (try w_num); exact hK)); (focus (intro _; simp [go_sem, *]; done)); (try walk_nrm))
    (co_applyP gd_val T rfl rfl (by k_ne) ?_ ?_ ?_; (focus (intro _ K hK; go_simp; (try w_num); exact hK)); (focus (intro _; simp [go_sem, *]; done)); (try walk_nrm))
    (refine gd_c T rfl (fun _ => stepG_unwanted rfl rfl) ?_; (try walk_nrm))
    (refine gd_c T rfl (fun _ => stepG_unwanted rfl rfl) ?_; (try walk_nrm))
    (co_applyP gd_val T rfl rfl (by k_ne) ?_ ?_ ?_; (focus (intro _ K hK; go_simp; (try w_num); exact hK)); (focus (intro _; simp [go_sem, *]; done)); (try walk_nrm))
    with_reducible refine gd_c T (G_running _ _) (fun _ => stepG_region_end) ?_
    (refine gd_c T rfl (fun _ => stepG_cond (t := false) rfl) ?_; simp only [if_true, if_false, Bool.false_eq_true, ↓reduceIte])
    with_reducible refine gd_c T (G_running _ _) (fun _ => stepG_skip) ?_
    with_reducible refine gd_c T (G_running _ _) (fun _ => stepG_seq) ?_
    ((with_reducible refine gd_c T (G_running _ _) (fun _ => stepG_region) ?_); simp only [List.size_toArray, List.length_cons, List.length_nil, Nat.reduceAdd, Nat.zero_add, List.range, List.range.loop])
    (co_applyP gd_val T rfl rfl (by k_ne) ?_ ?_ ?_; (focus (intro _ K hK; go_simp; (try w_num); exact hK)); (focus (intro _; simp [go_sem, *]; done)); (try walk_nrm))
    (co_applyP gd_val T rfl rfl (by k_ne) ?_ ?_ ?_; (focus (intro _ K hK; go_simp; (try w_num); exact hK)); (focus (intro _; simp [go_sem, *]; done)); (try walk_nrm))
    (co_applyP gd_val T rfl rfl (by k_ne) ?_ ?_ ?_; (focus (intro _ K hK; go_simp; (try w_num); exact hK)); (focus (intro _; simp [go_sem, *]; done)); (try walk_nrm))
    (co_applyP gd_val T rfl rfl (by k_ne) ?_ ?_ ?_; (focus (intro _ K hK; go_simp; (try w_num); exact hK)); (focus (intro _; simp [go_sem, *]; done)); (try walk_nrm))
    with_reducible refine gd_c T (G_running _ _) (fun _ => stepG_region_end) ?_
    with_reducible refine gd_c T (G_running _ _) (fun _ => stepG_seq) ?_
    ((with_reducible refine gd_c T (G_running _ _) (fun _ => stepG_region) ?_); simp only [List.size_toArray, List.length_cons, List.length_nil, Nat.reduceAdd, Nat.zero_add, List.range, List.range.loop])
    (co_applyP gd_val T rfl rfl (by k_ne) ?_ ?_ ?_; (focus (intro _ K hK; go_simp; (try w_num); exact hK)); (focus (intro _; simp [go_sem, *]; done)); (try walk_nrm))
    (co_applyP gd_val T rfl rfl (by k_ne) ?_ ?_ ?_; (focus (intro _ K hK; go_simp; (try w_num); exact hK)); (focus (intro _; simp [go_sem, *]; done)); (try walk_nrm))
    (co_applyP gd_val T rfl rfl (by k_ne) ?_ ?_ ?_; (focus (intro _ K hK; go_simp; (try w_num); exact hK)); (focus (intro _; simp [go_sem, *]; done)); (try walk_nrm))
    (co_applyP gd_val T rfl rfl (by k_ne) ?_ ?_ ?_; (focus (intro _ K hK; go_simp; (try w_num); exact hK)); (focus (intro _; simp [go_sem, *]; done)); (try walk_nrm))
    with_reducible refine gd_c T (G_running _ _) (fun _ => stepG_region_end) ?_
    with_reducible refine gd_c T (G_running _ _) (fun _ => stepG_seq) ?_
    with_reducible refine gd_c T (G_running _ _) (fun _ => stepG_seq) ?_
    ((with_reducible refine gd_c T (G_running _ _) (fun _ => stepG_region) ?_); simp only [List.size_toArray, List.length_cons, List.length_nil, Nat.reduceAdd, Nat.zero_add, List.range, List.range.loop])
    (co_applyP gd_val T rfl rfl (by k_ne) ?_ ?_ ?_; (focus (intro _ K hK; go_simp; (try w_num); exact hK)); (focus (intro _; simp [go_sem, *]; done)); (try walk_nrm))
    (co_applyP gd_val T rfl rfl (by k_ne) ?_ ?_ ?_; (focus (intro _ K hK; go_simp; (try w_num); exact hK)); (focus (intro _; simp [go_sem, *]; done)); (try walk_nrm))
    (co_applyP gd_val T rfl rfl (by k_ne) ?_ ?_ ?_; (focus (intro _ K hK; go_simp; (try w_num); exact hK)); (focus (intro _; simp [go_sem, *]; done)); (try walk_nrm))
    (co_applyP gd_val T rfl rfl (by k_ne) ?_ ?_ ?_; (focus (intro _ K hK; go_simp; (try w_num); exact hK)); (focus (intro _; simp [go_sem, *]; done)); (try walk_nrm))
    (co_applyP gd_val T rfl rfl (by k_ne) ?_ ?_ ?_; (focus (intro _ K hK; go_simp; (try w_num); exact hK)); (focus (intro _; simp [go_sem, *]; done)); (try walk_nrm))
    (refine gd_c T rfl (fun _ => stepG_unwanted rfl rfl) ?_; (try walk_nrm))
    (refine gd_c T rfl (fun _ => stepG_unwanted rfl rfl) ?_; (try walk_nrm))
    (refine gd_c T rfl (fun _ => stepG_unwanted rfl rfl) ?_; (try walk_nrm))
    (refine gd_c T rfl (fun _ => stepG_unwanted rfl rfl) ?_; (try walk_nrm))
    (co_applyP gd_val T rfl rfl (by k_ne) ?_ ?_ ?_; (focus (intro _ K hK; go_simp; (try w_num); exact hK)); (focus (intro _; simp [go_sem, *]; done)); (try walk_nrm))
    with_reducible refine gd_c T (G_running _ _) (fun _ => stepG_region_end) ?_
    (refine gd_c T rfl (fun _ => stepG_cond (t := false) rfl) ?_; simp only [if_true, if_false, Bool.false_eq_true, ↓reduceIte])
    with_reducible refine gd_c T (G_running _ _) (fun _ => stepG_skip) ?_
    with_reducible refine gd_c T (G_running _ _) (fun _ => stepG_seq) ?_
    with_reducible refine gd_c T (G_running _ _) (fun _ => stepG_seq) ?_
    ((with_reducible refine gd_c T (G_running _ _) (fun _ => stepG_region) ?_); simp only [List.size_toArray, List.length_cons, List.length_nil, Nat.reduceAdd, Nat.zero_add, List.range, List.range.loop])
    (co_applyP gd_val T rfl rfl (by k_ne) ?_ ?_ ?_; (focus (intro _ K hK; go_simp; (try w_num); exact hK)); (focus (intro _; simp [go_sem, *]; done)); (try walk_nrm))
    (co_applyP gd_val T rfl rfl (by k_ne) ?_ ?_ ?_; (focus (intro _ K hK; go_simp; (try w_num); exact hK)); (focus (intro _; simp [go_sem, *]; done)); (try walk_nrm))
    with_reducible refine gd_c T (G_running _ _) (fun _ => stepG_region_end) ?_
    (refine gd_c T rfl (fun _ => stepG_cond (t := false) rfl) ?_; simp only [if_true, if_false, Bool.false_eq_true, ↓reduceIte])
    with_reducible refine gd_c T (G_running _ _) (fun _ => stepG_skip) ?_
    with_reducible refine gd_c T (G_running _ _) (fun _ => stepG_seq) ?_
    with_reducible refine gd_c T (G_running _ _) (fun _ => stepG_seq) ?_
    ((with_reducible refine gd_c T (G_running _ _) (fun _ => stepG_region) ?_); simp only [List.size_toArray, List.length_cons, List.length_nil, Nat.reduceAdd, Nat.zero_add, List.range, List.range.loop])
    (co_applyP gd_val T rfl rfl (by k_ne) ?_ ?_ ?_; (focus (intro _ K hK; go_simp; (try w_num); exact hK)); (focus (intro _; simp [go_sem, *]; done)); (try walk_nrm))
    (co_applyP gd_val T rfl rfl (by k_ne) ?_ ?_ ?_; (focus (intro _ K hK; go_simp; (try w_num); exact hK)); (focus (intro _; simp [go_sem, *]; done)); (try walk_nrm))
    (co_applyP gd_val T rfl rfl (by k_ne) ?_ ?_ ?_; (focus (intro _ K hK; go_simp; (try w_num); exact hK)); (focus (intro _; simp [go_sem, *]; done)); (try walk_nrm))
    (co_applyP gd_val T rfl rfl (by k_ne) ?_ ?_ ?_; (focus (intro _ K hK; go_simp; (try w_num); exact hK)); (focus (intro _; simp [go_sem, *]; done)); (try walk_nrm))
    (co_applyP gd_val T rfl rfl (by k_ne) ?_ ?_ ?_; (focus (intro _ K hK; go_simp; (try w_num); exact hK)); (focus (intro _; simp [go_sem, *]; done)); (try walk_nrm))
    (co_applyP gd_val T rfl rfl (by k_ne) ?_ ?_ ?_; (focus (intro _ K hK; go_simp; (try w_num); exact hK)); (focus (intro _; simp [go_sem, *]; done)); (try walk_nrm))
    (co_applyP gd_val T rfl rfl (by k_ne) ?_ ?_ ?_; (focus (intro _ K hK; go_simp; (try w_num); exact hK)); (focus (intro _; simp [go_sem, *]; done)); (try walk_nrm))
    (refine gd_c T rfl (fun _ => stepG_unwanted rfl rfl) ?_; (try walk_nrm))
    (refine gd_c T rfl (fun _ => stepG_unwanted rfl rfl) ?_; (try walk_nrm))
    (refine gd_c T rfl (fun _ => stepG_unwanted rfl rfl) ?_; (try walk_nrm))
    (refine gd_c T rfl (fun _ => stepG_unwanted rfl rfl) ?_; (try walk_nrm))
    (co_applyP gd_val T rfl rfl (by k_ne) ?_ ?_ ?_; (focus (intro _ K hK; go_simp; (try w_num); exact hK)); (focus (intro _; simp [go_sem, *]; done)); (try walk_nrm))
    with_reducible refine gd_c T (G_running _ _) (fun _ => stepG_region_end) ?_
    (refine gd_c T rfl (fun _ => stepG_cond (t := false) rfl) ?_; simp only [if_true, if_false, Bool.false_eq_true, ↓reduceIte])
    with_reducible refine gd_c T (G_running _ _) (fun _ => stepG_skip) ?_
    with_reducible refine gd_c T (G_running _ _) (fun _ => stepG_seq) ?_
    with_reducible refine gd_c T (G_running _ _) (fun _ => stepG_seq) ?_
    ((with_reducible refine gd_c T (G_running _ _) (fun _ => stepG_region) ?_); simp only [List.size_toArray, List.length_cons, List.length_nil, Nat.reduceAdd, Nat.zero_add, List.range, List.range.loop])
    (co_applyP gd_val T rfl rfl (by k_ne) ?_ ?_ ?_; (focus (intro _ K hK; go_simp; (try w_num); exact hK)); (focus (intro _; simp [go_sem, *]; done)); (try walk_nrm))
    (co_applyP gd_val T rfl rfl (by k_ne) ?_ ?_ ?_; (focus (intro _ K hK; go_simp; (try w_num); exact hK)); (focus (intro _; simp [go_sem, *]; done)); (try walk_nrm))
    (co_applyP gd_val T rfl rfl (by k_ne) ?_ ?_ ?_; (focus (intro _ K hK; go_simp; (try w_num); exact hK)); (focus (intro _; simp [go_sem, *]; done)); (try walk_nrm))
    (co_applyP gd_val T rfl rfl (by k_ne) ?_ ?_ ?_; (focus (intro _ K hK; go_simp; (try w_num); exact hK)); (focus (intro _; simp [go_sem, *]; done)); (try walk_nrm))
    (co_applyP gd_val T rfl rfl (by k_ne) ?_ ?_ ?_; (focus (intro _ K hK; go_simp; (try w_num); exact hK)); (focus (intro _; simp [go_sem, *]; done)); (try walk_nrm))
    (co_applyP gd_val T rfl rfl (by k_ne) ?_ ?_ ?_; (focus (intro _ K hK; go_simp; (try w_num); exact hK)); (focus (intro _; simp [go_sem, *]; done)); (try walk_nrm))
    with_reducible refine gd_c T (G_running _ _) (fun _ => stepG_region_end) ?_
    (refine gd_c T rfl (fun _ => stepG_cond (t := false) rfl) ?_; simp only [if_true, if_false, Bool.false_eq_true, ↓reduceIte])
    with_reducible refine gd_c T (G_running _ _) (fun _ => stepG_skip) ?_
    with_reducible refine gd_c T (G_running _ _) (fun _ => stepG_seq) ?_
    with_reducible refine gd_c T (G_running _ _) (fun _ => stepG_seq) ?_
    ((with_reducible refine gd_c T (G_running _ _) (fun _ => stepG_region) ?_); simp only [List.size_toArray, List.length_cons, List.length_nil, Nat.reduceAdd, Nat.zero_add, List.range, List.range.loop])
    (co_applyP gd_val T rfl rfl (by k_ne) ?_ ?_ ?_; (focus (intro _ K hK; go_simp; (try w_num); exact hK)); (focus (intro _; simp [go_sem, *]; done)); (try walk_nrm))
    (co_applyP gd_val T rfl rfl (by k_ne) ?_ ?_ ?_; (focus (intro _ K hK; go_simp; (try w_num); exact hK)); (focus (intro _; simp [go_sem, *]; done)); (try walk_nrm))
    (co_applyP gd_val T rfl rfl (by k_ne) ?_ ?_ ?_; (focus (intro _ K hK; go_simp; (try w_num); exact hK)); (focus (intro _; simp [go_sem, *]; done)); (try walk_nrm))
    (refine gd_call T rfl rfl (by k_ne) rfl Tryz.func40 cn40 rfl ?_; walk_nrmf Tryz.f40)
    with_reducible refine gd_c T (G_running _ _) (fun _ => stepG_seq) ?_
    ((with_reducible refine gd_c T (G_running _ _) (fun _ => stepG_region) ?_); simp only [List.size_toArray, List.length_cons, List.length_nil, Nat.reduceAdd, Nat.zero_add, List.range, List.range.loop])
    (co_applyP gd_val T rfl rfl (by k_ne) ?_ ?_ ?_; (focus (intro _ K hK; go_simp; (try w_num); exact hK)); (focus (intro _; simp [go_sem, *]; done)); (try walk_nrm))
    with_reducible refine gd_c T (G_running _ _) (fun _ => stepG_region_end) ?_
    with_reducible refine gd_c T (G_running _ _) (fun _ => stepG_seq) ?_
    ((with_reducible refine gd_c T (G_running _ _) (fun _ => stepG_region) ?_); simp only [List.size_toArray, List.length_cons, List.length_nil, Nat.reduceAdd, Nat.zero_add, List.range, List.range.loop])
    (co_applyP gd_val T rfl rfl (by k_ne) ?_ ?_ ?_; (focus (intro _ K hK; go_simp; (try w_num); exact hK)); (focus (intro _; simp [go_sem, *]; done)); (try walk_nrm))
    (co_applyP gd_val T rfl rfl (by k_ne) ?_ ?_ ?_; (focus (intro _ K hK; go_simp; (try w_num); exact hK)); (focus (intro _; simp [go_sem, *]; done)); (try walk_nrm))
    (co_applyP gd_val T rfl rfl (by k_ne) ?_ ?_ ?_; (focus (intro _ K hK; go_simp; (try w_num); exact hK)); (focus (intro _; simp [go_sem, *]; done)); (try walk_nrm))
    refine GD.step rfl (fun w₂ h₂ => ?_)
    replace hwg := Ph.wgAt_of_block hwg h₂.wg
    clear h₂
    rw [stepG_load_atomic (v := 1) rfl rfl (by k_ne) rfl H.f_loadU64 (x_loadU64_n Tryz.link) (x_loadU64_b Tryz.link) (x_loadU64_x Tryz.link) .u64 (x_loadU64_f Tryz.link) rfl hwg.cellSt]
    simp only [goes_go]
    refine ⟨⟨fun _ _ => rfl, id, rfl, rfl, rfl, rfl, fun _ => Nat.one_pos, fun e he => ⟨stA x.Wg, false, by simpa using he, rfl⟩⟩, ?_⟩
    have db0 : deafBehind 1 #[(⟨.cell (stA x.Wg), false, true⟩ : Event)] = 1 := rfl
    rw [db0]
    clear db0
    walk_nrm
    (co_applyP gd_val T rfl rfl (by k_ne) ?_ ?_ ?_; (focus (intro _ K hK; go_simp; (try w_num); exact hK)); (focus (intro _; simp [go_sem, *]; done)); (try walk_nrm))
    with_reducible refine gd_c T (G_running _ _) (fun _ => stepG_region_end) ?_
    with_reducible refine gd_c T (G_running _ _) (fun _ => stepG_ret') ?_
    (refine gd_leave1 T rfl rfl Tryz.func40 rfl ?_; (try walk_nrm))
    (co_applyP gd_val T rfl rfl (by k_ne) ?_ ?_ ?_; (focus (intro _ K hK; go_simp; (try w_num); exact hK)); (focus (intro _; simp [go_sem, *]; done)); (try walk_nrm))
    (co_applyP gd_val T rfl rfl (by k_ne) ?_ ?_ ?_; (focus (intro _ K hK; go_simp; (try w_num); exact hK)); (focus (intro _; simp [go_sem, *]; done)); (try walk_nrm))
    with_reducible refine gd_c T (G_running _ _) (fun _ => stepG_region_end) ?_
    (refine gd_c T rfl (fun _ => stepG_cond (t := false) rfl) ?_; simp only [if_true, if_false, Bool.false_eq_true, ↓reduceIte])
    with_reducible refine gd_c T (G_running _ _) (fun _ => stepG_skip) ?_
    with_reducible refine gd_c T (G_running _ _) (fun _ => stepG_seq) ?_
    ((with_reducible refine gd_c T (G_running _ _) (fun _ => stepG_region) ?_); simp only [List.size_toArray, List.length_cons, List.length_nil, Nat.reduceAdd, Nat.zero_add, List.range, List.range.loop])
    (co_applyP gd_val T rfl rfl (by k_ne) ?_ ?_ ?_; (focus (intro _ K hK; go_simp; (try w_num); exact hK)); (focus (intro _; simp [go_sem, *]; done)); (try walk_nrm))
    (co_applyP gd_val T rfl rfl (by k_ne) ?_ ?_ ?_; (focus (intro _ K hK; go_simp; (try w_num); exact hK)); (focus (intro _; simp [go_sem, *]; done)); (try walk_nrm))
    (co_applyP gd_val T rfl rfl (by k_ne) ?_ ?_ ?_; (focus (intro _ K hK; go_simp; (try w_num); exact hK)); (focus (intro _; simp [go_sem, *]; done)); (try walk_nrm))
    (refine gd_call T rfl rfl (by k_ne) rfl Tryz.func41 cn41 rfl ?_; walk_nrmf Tryz.f41)
    ((with_reducible refine gd_c T (G_running _ _) (fun _ => stepG_region) ?_); simp only [List.size_toArray, List.length_cons, List.length_nil, Nat.reduceAdd, Nat.zero_add, List.range, List.range.loop])
    (co_applyP gd_val T rfl rfl (by k_ne) ?_ ?_ ?_; (focus (intro _ K hK; go_simp; (try w_num); exact hK)); (focus (intro _; simp [go_sem, *]; done)); (try walk_nrm))
    (co_applyP gd_val T rfl rfl (by k_ne) ?_ ?_ ?_; (focus (intro _ K hK; go_simp; (try w_num); exact hK)); (focus (intro _; simp [go_sem, *]; done)); (try walk_nrm))
    (co_applyP gd_val T rfl rfl (by k_ne) ?_ ?_ ?_; (focus (intro _ K hK; go_simp; (try w_num); exact hK)); (focus (intro _; simp [go_sem, *]; done)); (try walk_nrm))
    (co_applyP gd_val T rfl rfl (by k_ne) ?_ ?_ ?_; (focus (intro _ K hK; go_simp; (try w_num); exact hK)); (focus (intro _; simp [go_sem, *]; done)); (try walk_nrm))
    refine GD.step rfl (fun w₃ h₃ => ?_)
    replace hwg := Ph.wgAt_of_block hwg h₃.wg
    clear h₃
    rw [stepG_store_atomic (k := .u64) (v := 0) rfl rfl (by k_ne) rfl H.f_storeU64 (x_storeU64_n Tryz.link) (x_storeU64_b Tryz.link) (x_storeU64_x Tryz.link) (x_storeU64_f Tryz.link) rfl rfl hwg.cellSt (hwg.thaw 0)]
    simp only [goes_go]
    replace hwg := hwg.setSt 0
    refine ⟨⟨fun k hk => Below.heap_setCell _ _ _ _ hk, fun _ => ⟨0, hwg⟩, by simp, rfl, rfl, rfl, fun _ => Nat.one_pos, fun e he => ⟨stA x.Wg, true, by simpa using he, rfl⟩⟩, ?_⟩
    have db0 : deafBehind 1 #[(⟨.cell (stA x.Wg), true, true⟩ : Event)] = 1 := rfl
    rw [db0]
    clear db0
    walk_nrm
    generalize w₃.setCell (stA x.Wg) (.int .u64 0) = w at hwg ⊢
    with_reducible refine gd_c T (G_running _ _) (fun _ => stepG_region_end) ?_
    with_reducible refine gd_c T (G_running _ _) (fun _ => stepG_end) ?_
    (refine gd_leave0 T rfl rfl Tryz.func41 rfl ?_; (try walk_nrm))
    with_reducible refine gd_c T (G_running _ _) (fun _ => stepG_region_end) ?_
    with_reducible refine gd_c T (G_running _ _) (fun _ => stepG_seq) ?_
    with_reducible refine gd_c T (G_running _ _) (fun _ => stepG_seq) ?_
    ((with_reducible refine gd_c T (G_running _ _) (fun _ => stepG_region) ?_); simp only [List.size_toArray, List.length_cons, List.length_nil, Nat.reduceAdd, Nat.zero_add, List.range, List.range.loop])
    (co_applyP gd_val T rfl rfl (by k_ne) ?_ ?_ ?_; (focus (intro _ K hK; go_simp; (try w_num); exact hK)); (focus (intro _; simp [go_sem, *]; done)); (try walk_nrm))
    with_reducible refine gd_c T (G_running _ _) (fun _ => stepG_region_end) ?_
    (refine gd_c T rfl (fun _ => stepG_cond (t := false) rfl) ?_; simp only [if_true, if_false, Bool.false_eq_true, ↓reduceIte])
    with_reducible refine gd_c T (G_running _ _) (fun _ => stepG_skip) ?_
    with_reducible refine gd_c T (G_running _ _) (fun _ => stepG_block) ?_
    with_reducible refine gd_c T (G_running _ _) (fun _ => stepG_loop) ?_
    with_reducible refine gd_c T (G_running _ _) (fun _ => stepG_seq) ?_
    with_reducible refine gd_c T (G_running _ _) (fun _ => stepG_seq) ?_
    ((with_reducible refine gd_c T (G_running _ _) (fun _ => stepG_region) ?_); simp only [List.size_toArray, List.length_cons, List.length_nil, Nat.reduceAdd, Nat.zero_add, List.range, List.range.loop])
    (co_applyP gd_val T rfl rfl (by k_ne) ?_ ?_ ?_; (focus (intro _ K hK; go_simp; (try w_num); exact hK)); (focus (intro _; simp [go_sem, *]; done)); (try walk_nrm))
    (co_applyP gd_val T rfl rfl (by k_ne) ?_ ?_ ?_; (focus (intro _ K hK; go_simp; (try w_num); exact hK)); (focus (intro _; simp [go_sem, *]; done)); (try walk_nrm))
    with_reducible refine gd_c T (G_running _ _) (fun _ => stepG_region_end) ?_
    (refine gd_c T rfl (fun _ => stepG_cond (t := true) rfl) ?_; simp only [if_true, if_false, Bool.false_eq_true, ↓reduceIte])
    with_reducible refine gd_c T (G_running _ _) (fun _ => stepG_skip) ?_
    with_reducible refine gd_c T (G_running _ _) (fun _ => stepG_seq) ?_
    with_reducible refine gd_c T (G_running _ _) (fun _ => stepG_block) ?_
    ((with_reducible refine gd_c T (G_running _ _) (fun _ => stepG_region) ?_); simp only [List.size_toArray, List.length_cons, List.length_nil, Nat.reduceAdd, Nat.zero_add, List.range, List.range.loop])
    (co_applyP gd_val T rfl rfl (by k_ne) ?_ ?_ ?_; (focus (intro _ K hK; go_simp; (try w_num); exact hK)); (focus (intro _; simp [go_sem, *]; done)); (try walk_nrm))
    (co_applyP gd_val T rfl rfl (by k_ne) ?_ ?_ ?_; (focus (intro _ K hK; go_simp; (try w_num); exact hK)); (focus (intro _; simp [go_sem, *]; done)); (try walk_nrm))
    (co_applyP gd_val T rfl rfl (by k_ne) ?_ ?_ ?_; (focus (intro _ K hK; go_simp; (try w_num); exact hK)); (focus (intro _; simp [go_sem, *]; done)); (try walk_nrm))
    refine GD.stop (fun w₄ h₄ => ?_)
    replace hwg := Ph.wgAt_of_block hwg h₄.wg
    clear h₄
    refine ⟨rfl, rfl, mayWake_call rfl rfl H.f_semrelease (x_semrelease_b Tryz.link), hwg, _, (stepG_semrelease (ad := smA x.Wg) (n := 0) rfl rfl (by k_ne) rfl H.f_semrelease (x_semrelease_n Tryz.link) (x_semrelease_b Tryz.link) (x_semrelease_x Tryz.link) (x_semrelease_f Tryz.link) (by simp [Act.eval, smA]) hwg.cellSm (hwg.thaw 1)).trans rfl, qt + 200, ?_⟩
    walk_nrm
    with_reducible refine QuitsD.ctl (G_running _ _) (fun _ => stepG_region_end) ?_
    with_reducible refine QuitsD.ctl (G_running _ _) (fun _ => stepG_inBlock) ?_
    ((with_reducible refine QuitsD.ctl (G_running _ _) (fun _ => stepG_region) ?_); simp only [List.size_toArray, List.length_cons, List.length_nil, Nat.reduceAdd, Nat.zero_add, List.range, List.range.loop])
    (co_applyP quits_val rfl rfl (by k_ne) ?_ ?_ ?_; (focus (intro _ K hK; go_simp; (try w_num); (try simp only [xb0, xb1, xb2, xb3, xb4, xb5]); exact hK)); (focus (intro _; simp [go_sem, *]; done)); (try walk_nrm))
    (co_applyP quits_val rfl rfl (by k_ne) ?_ ?_ ?_; (focus (intro _ K hK; go_simp; (try w_num); (try simp only [xb0, xb1, xb2, xb3, xb4, xb5]); exact hK)); (focus (intro _; simp [go_sem, *]; done)); (try walk_nrm))
    (co_applyP quits_val rfl rfl (by k_ne) ?_ ?_ ?_; (focus (intro _ K hK; go_simp; (try w_num); (try simp only [xb0, xb1, xb2, xb3, xb4, xb5]); exact hK)); (focus (intro _; simp [go_sem, *]; done)); (try walk_nrm))
    with_reducible refine QuitsD.ctl (G_running _ _) (fun _ => stepG_region_end) ?_
    with_reducible refine QuitsD.ctl (G_running _ _) (fun _ => stepG_inLoop) ?_
    with_reducible refine QuitsD.ctl (G_running _ _) (fun _ => stepG_seq) ?_
    with_reducible refine QuitsD.ctl (G_running _ _) (fun _ => stepG_seq) ?_
    ((with_reducible refine QuitsD.ctl (G_running _ _) (fun _ => stepG_region) ?_); simp only [List.size_toArray, List.length_cons, List.length_nil, Nat.reduceAdd, Nat.zero_add, List.range, List.range.loop])
    (co_applyP quits_val rfl rfl (by k_ne) ?_ ?_ ?_; (focus (intro _ K hK; go_simp; (try w_num); (try simp only [xb0, xb1, xb2, xb3, xb4, xb5]); exact hK)); (focus (intro _; simp [go_sem, *]; done)); (try walk_nrm))
    (co_applyP quits_val rfl rfl (by k_ne) ?_ ?_ ?_; (focus (intro _ K hK; go_simp; (try w_num); (try simp only [xb0, xb1, xb2, xb3, xb4, xb5]); exact hK)); (focus (intro _; simp [go_sem, *]; done)); (try walk_nrm))
    with_reducible refine QuitsD.ctl (G_running _ _) (fun _ => stepG_region_end) ?_
    (refine QuitsD.ctl rfl (fun _ => stepG_cond (t := false) rfl) ?_; simp only [if_true, if_false, Bool.false_eq_true, ↓reduceIte])
    refine QuitsD.ctl rfl (fun _ => stepG_exit rfl) ?_
    with_reducible refine QuitsD.ctl (G_running _ _) (fun _ => stepG_end) ?_
    (refine QuitsD.unwind_mark .enable rfl (by simp) rfl H.f_enable (x_enable_n Tryz.link) (x_enable_b Tryz.link) (x_enable_x Tryz.link) (x_enable_f Tryz.link) ?_; simp only [deafBehind_enable, Nat.sub_self, Nat.reduceSub])
    (refine QuitsD.leave0 rfl rfl Tryz.func23 rfl ?_; (try walk_nrm))
    with_reducible refine QuitsD.ctl (G_running _ _) (fun _ => stepG_region_end) ?_
    with_reducible refine QuitsD.ctl (G_running _ _) (fun _ => stepG_end) ?_
    exact QuitsD.leaveD rfl rfl Tryz.func25 rfl hcm (quits_le hT (by omega))
end
end Go.Proofs.YtacimedkchjfnaaGreat
end
