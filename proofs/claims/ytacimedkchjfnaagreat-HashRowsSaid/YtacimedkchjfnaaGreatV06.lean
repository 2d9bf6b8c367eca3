/- Part 6 of the proof: C3. -/
import Derived.Test.YtacimedkchjfnaaGreatV05
section
/-! Goroutine 0's Wait: from the loop's head. -/
namespace Go.Proofs.YtacimedkchjfnaaGreat
set_option linter.unusedSimpArgs false
set_option linter.unusedVariables false
set_option maxRecDepth 100000
open Go.Conc Go.RowKit Go.Conc.Lib Go.ConcR.Gen
open Go.ConcR (KK wgBlock WgAt stA smA rd wr deafBehind_cons deafBehind_one)
open Go.ConcN (WgLive)
section
variable {x : Ph} {b₀ : Frame} {a₀ : Act} {ops₀ : Array Oper} {i₀ : Nat} {rest₀ : List Nat} {k₀ : List Item} {cs₀ : List Frame}
set_option maxHeartbeats 8000000 in
theorem wait_round (V : Nat) : V ≤ 3 → ∃ m, ∀ (T : Array Value) (w : World), T.size = 84 → T[0]? = some (.pointer (some ⟨x.Wg, 0, none⟩)) → x.WI w → x.CL V w →
    GD Tryz.prog true x.RM x.DM (x.AtW Tryz.prog (AnchR (backW b₀ a₀ ops₀ i₀ rest₀ k₀ cs₀)) V) m 1 (G ((base 26).at ⟨T, []⟩ [.code L26, .inLoop L26, .inBlock 0]) (b₀.at a₀ (.inRegion ops₀ (i₀ :: rest₀) :: k₀) :: cs₀)) w := by
  induction V using Nat.strongRecOn with
  | _ V ih =>
  intro hV
  obtain ⟨M, hM⟩ : ∃ M, ∀ v, v < V → ∀ (T : Array Value) (w : World), T.size = 84 → T[0]? = some (.pointer (some ⟨x.Wg, 0, none⟩)) → x.WI w → x.CL v w →
      GD Tryz.prog true x.RM x.DM (x.AtW Tryz.prog (AnchR (backW b₀ a₀ ops₀ i₀ rest₀ k₀ cs₀)) v) M 1 (G ((base 26).at ⟨T, []⟩ [.code L26, .inLoop L26, .inBlock 0]) (b₀.at a₀ (.inRegion ops₀ (i₀ :: rest₀) :: k₀) :: cs₀)) w := by
    have f : ∀ v, ∃ m, v < V → ∀ (T : Array Value) (w : World), T.size = 84 → T[0]? = some (.pointer (some ⟨x.Wg, 0, none⟩)) → x.WI w → x.CL v w →
      GD Tryz.prog true x.RM x.DM (x.AtW Tryz.prog (AnchR (backW b₀ a₀ ops₀ i₀ rest₀ k₀ cs₀)) v) m 1 (G ((base 26).at ⟨T, []⟩ [.code L26, .inLoop L26, .inBlock 0]) (b₀.at a₀ (.inRegion ops₀ (i₀ :: rest₀) :: k₀) :: cs₀)) w := by
      intro v
      by_cases h : v < V
      · obtain ⟨m, hm⟩ := ih v h (by omega)
        exact ⟨m, fun _ => hm⟩
      · exact ⟨0, fun h' => absurd h' h⟩
    obtain ⟨m0, h0⟩ := f 0
    obtain ⟨m1, h1⟩ := f 1
    obtain ⟨m2, h2⟩ := f 2
    refine ⟨m0 + m1 + m2, fun v hv T w e1 e2 e3 e4 => ?_⟩
    obtain rfl | rfl | rfl : v = 0 ∨ v = 1 ∨ v = 2 := by omega
    · exact (h0 hv T w e1 e2 e3 e4).mono (by omega)
    · exact (h1 hv T w e1 e2 e3 e4).mono (by omega)
    · exact (h2 hv T w e1 e2 e3 e4).mono (by omega)
  clear ih
  refine ⟨M + 300, ?_⟩
  intro T₀ w hT84 hT0 hwi hcl
  obtain ⟨v0, v1, v2, v3, v4, v5, v6, v7, v8, v9, v10, v11, v12, v13, v14, v15, v16, v17, v18, v19, v20, v21, v22, v23, v24, v25, v26, v27, v28, v29, v30, v31, v32, v33, v34, v35, v36, v37, v38, v39, v40, v41, v42, v43, v44, v45, v46, v47, v48, v49, v50, v51, v52, v53, v54, v55, v56, v57, v58, v59, v60, v61, v62, v63, v64, v65, v66, v67, v68, v69, v70, v71, v72, v73, v74, v75, v76, v77, v78, v79, v80, v81, v82, v83, rfl⟩ := arr84 T₀ hT84
  simp only [List.getElem?_toArray, List.getElem?_cons_zero, Option.some.injEq] at hT0
  subst hT0
  have H := Tryz.wgLib
  have T := tM x
  have TS : ∀ (d : Nat) (w : World) (e : Event), e.mute = true → x.DM d w w #[e] := fun d w e he => ⟨rfl, fun e' he' => by rw [Array.mem_singleton] at he'; subst he'; exact .inr (.inr (.inr he))⟩
  have TR : ∀ (d : Nat) (w : World) (ad : Addr) (wr : Bool), ad.block = x.Wg → x.DM d w w #[⟨.cell ad, wr, true⟩] := fun d w ad wr h => ⟨rfl, fun e' he' => by rw [Array.mem_singleton] at he'; subst he'; exact .inl ⟨ad, wr, rfl, h⟩⟩
  simp only [L26, Tryz.f26, Option.getD_some]
  with_reducible refine gd_c T (G_running _ _) (fun _ => stepG_block) ?_
  with_reducible refine gd_c T (G_running _ _) (fun _ => stepG_seq) ?_
  ((with_reducible refine gd_c T (G_running _ _) (fun _ => stepG_region) ?_); simp only [List.size_toArray, List.length_cons, List.length_nil, Nat.reduceAdd, Nat.zero_add, List.range, List.range.loop])
  (co_applyP gd_val T rfl rfl (by k_ne) ?_ ?_ ?_; (focus (intro _ K hK; go_simp; (try w_num); exact hK)); (focus (intro _; simp [go_sem, *]; done)); (try walk_nrm))
  (co_applyP gd_val T rfl rfl (by k_ne) ?_ ?_ ?_; (focus (intro _ K hK; go_simp; (try w_num); exact hK)); (focus (intro _; simp [go_sem, *]; done)); (try walk_nrm))
  (co_applyP gd_val T rfl rfl (by k_ne) ?_ ?_ ?_; (focus (intro _ K hK; go_simp; (try w_num); exact hK)); (focus (intro _; simp [go_sem, *]; done)); (try walk_nrm))
  (refine gd_call T rfl rfl (by k_ne) rfl Tryz.func40 cn40 rfl ?_; walk_nrmf Tryz.f40)
  with_reducible refine gd_c T (G_running _ _) (fun _ => stepG_seq) ?_
  ((with_reducible refine gd_c T (G_running _ _) (fun _ => stepG_region) ?_); simp only [List.size_toArray, List.length_cons, List.length_nil, Nat.reduceAdd, Nat.zero_add, List.range, List.range.loop])
  (co_applyP gd_val T rfl rfl (by k_ne) ?_ ?_ ?_; (focus (intro _ K hK; go_simp; (try w_num); exact hK)); (focus (intro _; simp [go_sem, *]; done)); (try walk_nrm))
  with_reducible refine gd_c T (G_running _ _) (fun _ => stepG_region_end) ?_
  with_reducible refine gd_c T (G_running _ _) (fun _ => stepG_seq) ?_
  ((with_reducible refine gd_c T (G_running _ _) (fun _ => stepG_region) ?_); simp only [List.size_toArray, List.length_cons, List.length_nil, Nat.reduceAdd, Nat.zero_add, List.range, List.range.loop])
  (co_applyP gd_val T rfl rfl (by k_ne) ?_ ?_ ?_; (focus (intro _ K hK; go_simp; (try w_num); exact hK)); (focus (intro _; simp [go_sem, *]; done)); (try walk_nrm))
  (co_applyP gd_val T rfl rfl (by k_ne) ?_ ?_ ?_; (focus (intro _ K hK; go_simp; (try w_num); exact hK)); (focus (intro _; simp [go_sem, *]; done)); (try walk_nrm))
  (co_applyP gd_val T rfl rfl (by k_ne) ?_ ?_ ?_; (focus (intro _ K hK; go_simp; (try w_num); exact hK)); (focus (intro _; simp [go_sem, *]; done)); (try walk_nrm))
  refine GD.step rfl (fun w₁ h₁ => ?_)
  replace hwi := h₁.wi hwi
  replace hcl := h₁.down V hcl
  clear h₁
  obtain ⟨v, hv, hwg⟩ := hcl
  rw [stepG_load_atomic (v := (v : Int) * KK) rfl rfl (by k_ne) rfl H.f_loadU64 (x_loadU64_n Tryz.link) (x_loadU64_b Tryz.link) (x_loadU64_x Tryz.link) .u64 (x_loadU64_f Tryz.link) rfl hwg.cellSt]
  simp only [goes_go]
  refine ⟨TR _ _ _ _ rfl, ?_⟩
  have db0 : deafBehind 1 #[(⟨.cell (stA x.Wg), false, true⟩ : Event)] = 1 := rfl
  rw [db0]
  clear db0
  have hcv : x.CL v w₁ := ⟨v, Nat.le_refl _, hwg⟩
  clear hwg
  walk_nrm
  obtain rfl | rfl | rfl | rfl : v = 0 ∨ v = 1 ∨ v = 2 ∨ v = 3 := by omega
  · have e0 : ((0 : Nat) : Int) * KK = 0 := by decide
    simp only [e0]
    (co_applyP gd_val T rfl rfl (by k_ne) ?_ ?_ ?_; (focus (intro _ K hK; go_simp; (try w_num); exact hK)); (focus (intro _; simp [go_sem, *]; done)); (try walk_nrm))
    with_reducible refine gd_c T (G_running _ _) (fun _ => stepG_region_end) ?_
    with_reducible refine gd_c T (G_running _ _) (fun _ => stepG_ret') ?_
    (refine gd_leave1 T rfl rfl Tryz.func40 rfl ?_; (try walk_nrm))
    (co_applyP gd_val T rfl rfl (by k_ne) ?_ ?_ ?_; (focus (intro _ K hK; go_simp; (try w_num); exact hK)); (focus (intro _; simp [go_sem, *]; done)); (try walk_nrm))
    with_reducible refine gd_c T (G_running _ _) (fun _ => stepG_region_end) ?_
    with_reducible refine gd_c T (G_running _ _) (fun _ => stepG_seq) ?_
    ((with_reducible refine gd_c T (G_running _ _) (fun _ => stepG_region) ?_); simp only [List.size_toArray, List.length_cons, List.length_nil, Nat.reduceAdd, Nat.zero_add, List.range, List.range.loop])
    (co_applyP gd_val T rfl rfl (by k_ne) ?_ ?_ ?_; (focus (intro _ K hK; go_simp; (try w_num); exact hK)); (focus (intro _; simp [go_sem, *]; done)); (try walk_nrm))
    (co_applyP gd_val T rfl rfl (by k_ne) ?_ ?_ ?_; (focus (intro _ K hK; go_simp; (try w_num); exact hK)); (focus (intro _; simp [go_sem, *]; done)); (try walk_nrm))
    (co_applyP gd_val T rfl rfl (by k_ne) ?_ ?_ ?_; (focus (intro _ K hK; go_simp; (try w_num); exact hK)); (focus (intro _; simp [go_sem, *]; done)); (try walk_nrm))
    (co_applyP gd_val T rfl rfl (by k_ne) ?_ ?_ ?_; (focus (intro _ K hK; go_simp; (try w_num); exact hK)); (focus (intro _; simp [go_sem, *]; done)); (try walk_nrm))
    with_reducible refine gd_c T (G_running _ _) (fun _ => stepG_region_end) ?_
    with_reducible refine gd_c T (G_running _ _) (fun _ => stepG_seq) ?_
    ((with_reducible refine gd_c T (G_running _ _) (fun _ => stepG_region) ?_); simp only [List.size_toArray, List.length_cons, List.length_nil, Nat.reduceAdd, Nat.zero_add, List.range, List.range.loop])
    (co_applyP gd_val T rfl rfl (by k_ne) ?_ ?_ ?_; (focus (intro _ K hK; go_simp; (try w_num); exact hK)); (focus (intro _; simp [go_sem, *]; done)); (try walk_nrm))
    (co_applyP gd_val T rfl rfl (by k_ne) ?_ ?_ ?_; (focus (intro _ K hK; go_simp; (try w_num); exact hK)); (focus (intro _; simp [go_sem, *]; done)); (try walk_nrm))
    (co_applyP gd_val T rfl rfl (by k_ne) ?_ ?_ ?_; (focus (intro _ K hK; go_simp; (try w_num); exact hK)); (focus (intro _; simp [go_sem, *]; done)); (try walk_nrm))
    (co_applyP gd_val T rfl rfl (by k_ne) ?_ ?_ ?_; (focus (intro _ K hK; go_simp; (try w_num); exact hK)); (focus (intro _; simp [go_sem, *]; done)); (try walk_nrm))
    with_reducible refine gd_c T (G_running _ _) (fun _ => stepG_region_end) ?_
    with_reducible refine gd_c T (G_running _ _) (fun _ => stepG_seq) ?_
    with_reducible refine gd_c T (G_running _ _) (fun _ => stepG_seq) ?_
    ((with_reducible refine gd_c T (G_running _ _) (fun _ => stepG_region) ?_); simp only [List.size_toArray, List.length_cons, List.length_nil, Nat.reduceAdd, Nat.zero_add, List.range, List.range.loop])
    (co_applyP gd_val T rfl rfl (by k_ne) ?_ ?_ ?_; (focus (intro _ K hK; go_simp; (try w_num); exact hK)); (focus (intro _; simp [go_sem, *]; done)); (try walk_nrm))
    (co_applyP gd_val T rfl rfl (by k_ne) ?_ ?_ ?_; (focus (intro _ K hK; go_simp; (try w_num); exact hK)); (focus (intro _; simp [go_sem, *]; done)); (try walk_nrm))
    with_reducible refine gd_c T (G_running _ _) (fun _ => stepG_region_end) ?_
    (refine gd_c T rfl (fun _ => stepG_cond (t := true) rfl) ?_; simp only [if_true, if_false, Bool.false_eq_true, ↓reduceIte])
    with_reducible refine gd_c T (G_running _ _) (fun _ => stepG_seq) ?_
    (refine gd_c T rfl (fun _ => stepG_cond (t := true) rfl) ?_; simp only [if_true, if_false, Bool.false_eq_true, ↓reduceIte])
    with_reducible refine gd_c T (G_running _ _) (fun _ => stepG_seq) ?_
    ((with_reducible refine gd_c T (G_running _ _) (fun _ => stepG_region) ?_); simp only [List.size_toArray, List.length_cons, List.length_nil, Nat.reduceAdd, Nat.zero_add, List.range, List.range.loop])
    (refine gd_said T.tr _ (fun w => TS _ w _ rfl) rfl (fun _ => stepG_mark0 .enable (by simp) rfl rfl (by k_ne) rfl H.f_enable (x_enable_n Tryz.link) (x_enable_b Tryz.link) (x_enable_x Tryz.link) (x_enable_f Tryz.link)) ?_; simp only [deafBehind_enable, Nat.sub_self, Nat.reduceSub]; (try walk_nrm))
    with_reducible refine gd_c T (G_running _ _) (fun _ => stepG_region_end) ?_
    ((with_reducible refine gd_c T (G_running _ _) (fun _ => stepG_region) ?_); simp only [List.size_toArray, List.length_cons, List.length_nil, Nat.reduceAdd, Nat.zero_add, List.range, List.range.loop])
    (co_applyP gd_val T rfl rfl (by k_ne) ?_ ?_ ?_; (focus (intro _ K hK; go_simp; (try w_num); exact hK)); (focus (intro _; simp [go_sem, *]; done)); (try walk_nrm))
    (co_applyP gd_val' T rfl rfl (by k_ne) ?_ ?_ ?_; (focus (intro w₁ h₁ K hK; obtain ⟨_, hcc⟩ := lcell0 (h₁.live hwi.live); have hcv := run_convert_to_unsafe (P := Tryz.prog) H.underlying_tWgP H.underlying_tUP H.room_tWg hcc; go_simp; exact hK)); (focus (intro w₁ h₁; have hce := fun es => events_convert_to_unsafe (P := Tryz.prog) H.underlying_tWgP H.underlying_tUP H.room_tWg (lcell0 (h₁.live hwi.live)).choose_spec es; simp [go_sem, hce]; done)); (try walk_nrm))
    refine GD.stop (fun w₂ h₂ => atW_acq ?_)
    obtain ⟨v', hv', hwg⟩ := h₂.down 0 hcv
    obtain rfl : v' = 0 := by omega
    refine ⟨rfl, rfl, by simpa using hwg, _, stepG_markAt .acquire (by simp) rfl rfl (by k_ne) rfl H.f_acquire (x_acquire_n Tryz.link) (x_acquire_b Tryz.link) (x_acquire_x Tryz.link) (x_acquire_f Tryz.link) (by simp [Act.eval, stA]), 100, fun w => ?_⟩
    clear T TS TR hwi hcv h₂ hwg hM
    have T := tN
    walk_nrm
    with_reducible refine gd_c T (G_running _ _) (fun _ => stepG_region_end) ?_
    with_reducible refine gd_c T (G_running _ _) (fun _ => stepG_seq) ?_
    with_reducible refine gd_c T (G_running _ _) (fun _ => stepG_seq) ?_
    ((with_reducible refine gd_c T (G_running _ _) (fun _ => stepG_region) ?_); simp only [List.size_toArray, List.length_cons, List.length_nil, Nat.reduceAdd, Nat.zero_add, List.range, List.range.loop])
    (co_applyP gd_val T rfl rfl (by k_ne) ?_ ?_ ?_; (focus (intro _ K hK; go_simp; (try w_num); exact hK)); (focus (intro _; simp [go_sem, *]; done)); (try walk_nrm))
    (co_applyP gd_val T rfl rfl (by k_ne) ?_ ?_ ?_; (focus (intro _ K hK; go_simp; (try w_num); exact hK)); (focus (intro _; simp [go_sem, *]; done)); (try walk_nrm))
    (co_applyP gd_val T rfl rfl (by k_ne) ?_ ?_ ?_; (focus (intro _ K hK; go_simp; (try w_num); exact hK)); (focus (intro _; simp [go_sem, *]; done)); (try walk_nrm))
    (co_applyP gd_val T rfl rfl (by k_ne) ?_ ?_ ?_; (focus (intro _ K hK; go_simp; (try w_num); exact hK)); (focus (intro _; simp [go_sem, *]; done)); (try walk_nrm))
    (co_applyP gd_val T rfl rfl (by k_ne) ?_ ?_ ?_; (focus (intro _ K hK; go_simp; (try w_num); exact hK)); (focus (intro _; simp [go_sem, *]; done)); (try walk_nrm))
    (co_applyP gd_val T rfl rfl (by k_ne) ?_ ?_ ?_; (focus (intro _ K hK; go_simp; (try w_num); exact hK)); (focus (intro _; simp [go_sem, *]; done)); (try walk_nrm))
    (co_applyP gd_val T rfl rfl (by k_ne) ?_ ?_ ?_; (focus (intro _ K hK; go_simp; (try w_num); exact hK)); (focus (intro _; simp [go_sem, *]; done)); (try walk_nrm))
    (co_applyP gd_val T rfl rfl (by k_ne) ?_ ?_ ?_; (focus (intro _ K hK; go_simp; (try w_num); exact hK)); (focus (intro _; simp [go_sem, *]; done)); (try walk_nrm))
    (refine gd_c T rfl (fun _ => stepG_unwanted rfl rfl) ?_; (try walk_nrm))
    (refine gd_c T rfl (fun _ => stepG_unwanted rfl rfl) ?_; (try walk_nrm))
    (co_applyP gd_val T rfl rfl (by k_ne) ?_ ?_ ?_; (focus (intro _ K hK; go_simp; (try w_num); exact hK)); (focus (intro _; simp [go_sem, *]; done)); (try walk_nrm))
    with_reducible refine gd_c T (G_running _ _) (fun _ => stepG_region_end) ?_
    (refine gd_c T rfl (fun _ => stepG_cond (t := false) rfl) ?_; simp only [if_true, if_false, Bool.false_eq_true, ↓reduceIte])
    with_reducible refine gd_c T (G_running _ _) (fun _ => stepG_skip) ?_
    with_reducible refine gd_c T (G_running _ _) (fun _ => stepG_ret') ?_
    (refine gd_leave0 T rfl rfl Tryz.func26 rfl ?_; (try walk_nrm))
    exact GD.stop (fun _ _ => ⟨rfl, rfl⟩)
  · have e0 : ((1 : Nat) : Int) * KK = 4294967296 := by decide
    simp only [e0]
    (co_applyP gd_val T rfl rfl (by k_ne) ?_ ?_ ?_; (focus (intro _ K hK; go_simp; (try w_num); exact hK)); (focus (intro _; simp [go_sem, *]; done)); (try walk_nrm))
    with_reducible refine gd_c T (G_running _ _) (fun _ => stepG_region_end) ?_
    with_reducible refine gd_c T (G_running _ _) (fun _ => stepG_ret') ?_
    (refine gd_leave1 T rfl rfl Tryz.func40 rfl ?_; (try walk_nrm))
    (co_applyP gd_val T rfl rfl (by k_ne) ?_ ?_ ?_; (focus (intro _ K hK; go_simp; (try w_num); exact hK)); (focus (intro _; simp [go_sem, *]; done)); (try walk_nrm))
    with_reducible refine gd_c T (G_running _ _) (fun _ => stepG_region_end) ?_
    with_reducible refine gd_c T (G_running _ _) (fun _ => stepG_seq) ?_
    ((with_reducible refine gd_c T (G_running _ _) (fun _ => stepG_region) ?_); simp only [List.size_toArray, List.length_cons, List.length_nil, Nat.reduceAdd, Nat.zero_add, List.range, List.range.loop])
    (co_applyP gd_val T rfl rfl (by k_ne) ?_ ?_ ?_; (focus (intro _ K hK; go_simp; (try w_num); exact hK)); (focus (intro _; simp [go_sem, *]; done)); (try walk_nrm))
    (co_applyP gd_val T rfl rfl (by k_ne) ?_ ?_ ?_; (focus (intro _ K hK; go_simp; (try w_num); exact hK)); (focus (intro _; simp [go_sem, *]; done)); (try walk_nrm))
    (co_applyP gd_val T rfl rfl (by k_ne) ?_ ?_ ?_; (focus (intro _ K hK; go_simp; (try w_num); exact hK)); (focus (intro _; simp [go_sem, *]; done)); (try walk_nrm))
    (co_applyP gd_val T rfl rfl (by k_ne) ?_ ?_ ?_; (focus (intro _ K hK; go_simp; (try w_num); exact hK)); (focus (intro _; simp [go_sem, *]; done)); (try walk_nrm))
    with_reducible refine gd_c T (G_running _ _) (fun _ => stepG_region_end) ?_
    with_reducible refine gd_c T (G_running _ _) (fun _ => stepG_seq) ?_
    ((with_reducible refine gd_c T (G_running _ _) (fun _ => stepG_region) ?_); simp only [List.size_toArray, List.length_cons, List.length_nil, Nat.reduceAdd, Nat.zero_add, List.range, List.range.loop])
    (co_applyP gd_val T rfl rfl (by k_ne) ?_ ?_ ?_; (focus (intro _ K hK; go_simp; (try w_num); exact hK)); (focus (intro _; simp [go_sem, *]; done)); (try walk_nrm))
    (co_applyP gd_val T rfl rfl (by k_ne) ?_ ?_ ?_; (focus (intro _ K hK; go_simp; (try w_num); exact hK)); (focus (intro _; simp [go_sem, *]; done)); (try walk_nrm))
    (co_applyP gd_val T rfl rfl (by k_ne) ?_ ?_ ?_; (focus (intro _ K hK; go_simp; (try w_num); exact hK)); (focus (intro _; simp [go_sem, *]; done)); (try walk_nrm))
    (co_applyP gd_val T rfl rfl (by k_ne) ?_ ?_ ?_; (focus (intro _ K hK; go_simp; (try w_num); exact hK)); (focus (intro _; simp [go_sem, *]; done)); (try walk_nrm))
    with_reducible refine gd_c T (G_running _ _) (fun _ => stepG_region_end) ?_
    with_reducible refine gd_c T (G_running _ _) (fun _ => stepG_seq) ?_
    with_reducible refine gd_c T (G_running _ _) (fun _ => stepG_seq) ?_
    ((with_reducible refine gd_c T (G_running _ _) (fun _ => stepG_region) ?_); simp only [List.size_toArray, List.length_cons, List.length_nil, Nat.reduceAdd, Nat.zero_add, List.range, List.range.loop])
    (co_applyP gd_val T rfl rfl (by k_ne) ?_ ?_ ?_; (focus (intro _ K hK; go_simp; (try w_num); exact hK)); (focus (intro _; simp [go_sem, *]; done)); (try walk_nrm))
    (co_applyP gd_val T rfl rfl (by k_ne) ?_ ?_ ?_; (focus (intro _ K hK; go_simp; (try w_num); exact hK)); (focus (intro _; simp [go_sem, *]; done)); (try walk_nrm))
    with_reducible refine gd_c T (G_running _ _) (fun _ => stepG_region_end) ?_
    (refine gd_c T rfl (fun _ => stepG_cond (t := false) rfl) ?_; simp only [if_true, if_false, Bool.false_eq_true, ↓reduceIte])
    with_reducible refine gd_c T (G_running _ _) (fun _ => stepG_skip) ?_
    with_reducible refine gd_c T (G_running _ _) (fun _ => stepG_seq) ?_
    ((with_reducible refine gd_c T (G_running _ _) (fun _ => stepG_region) ?_); simp only [List.size_toArray, List.length_cons, List.length_nil, Nat.reduceAdd, Nat.zero_add, List.range, List.range.loop])
    (co_applyP gd_val T rfl rfl (by k_ne) ?_ ?_ ?_; (focus (intro _ K hK; go_simp; (try w_num); exact hK)); (focus (intro _; simp [go_sem, *]; done)); (try walk_nrm))
    (co_applyP gd_val T rfl rfl (by k_ne) ?_ ?_ ?_; (focus (intro _ K hK; go_simp; (try w_num); exact hK)); (focus (intro _; simp [go_sem, *]; done)); (try walk_nrm))
    (co_applyP gd_val T rfl rfl (by k_ne) ?_ ?_ ?_; (focus (intro _ K hK; go_simp; (try w_num); exact hK)); (focus (intro _; simp [go_sem, *]; done)); (try walk_nrm))
    (co_applyP gd_val T rfl rfl (by k_ne) ?_ ?_ ?_; (focus (intro _ K hK; go_simp; (try w_num); exact hK)); (focus (intro _; simp [go_sem, *]; done)); (try walk_nrm))
    (co_applyP gd_val T rfl rfl (by k_ne) ?_ ?_ ?_; (focus (intro _ K hK; go_simp; (try w_num); exact hK)); (focus (intro _; simp [go_sem, *]; done)); (try walk_nrm))
    (co_applyP gd_val T rfl rfl (by k_ne) ?_ ?_ ?_; (focus (intro _ K hK; go_simp; (try w_num); exact hK)); (focus (intro _; simp [go_sem, *]; done)); (try walk_nrm))
    (refine gd_call T rfl rfl (by k_ne) rfl Tryz.func46 cn46 rfl ?_; walk_nrmf Tryz.f46)
    with_reducible refine gd_c T (G_running _ _) (fun _ => stepG_seq) ?_
    ((with_reducible refine gd_c T (G_running _ _) (fun _ => stepG_region) ?_); simp only [List.size_toArray, List.length_cons, List.length_nil, Nat.reduceAdd, Nat.zero_add, List.range, List.range.loop])
    (co_applyP gd_val T rfl rfl (by k_ne) ?_ ?_ ?_; (focus (intro _ K hK; go_simp; (try w_num); exact hK)); (focus (intro _; simp [go_sem, *]; done)); (try walk_nrm))
    with_reducible refine gd_c T (G_running _ _) (fun _ => stepG_region_end) ?_
    with_reducible refine gd_c T (G_running _ _) (fun _ => stepG_seq) ?_
    ((with_reducible refine gd_c T (G_running _ _) (fun _ => stepG_region) ?_); simp only [List.size_toArray, List.length_cons, List.length_nil, Nat.reduceAdd, Nat.zero_add, List.range, List.range.loop])
    (co_applyP gd_val T rfl rfl (by k_ne) ?_ ?_ ?_; (focus (intro _ K hK; go_simp; (try w_num); exact hK)); (focus (intro _; simp [go_sem, *]; done)); (try walk_nrm))
    (co_applyP gd_val T rfl rfl (by k_ne) ?_ ?_ ?_; (focus (intro _ K hK; go_simp; (try w_num); exact hK)); (focus (intro _; simp [go_sem, *]; done)); (try walk_nrm))
    (co_applyP gd_val T rfl rfl (by k_ne) ?_ ?_ ?_; (focus (intro _ K hK; go_simp; (try w_num); exact hK)); (focus (intro _; simp [go_sem, *]; done)); (try walk_nrm))
    (co_applyP gd_val T rfl rfl (by k_ne) ?_ ?_ ?_; (focus (intro _ K hK; go_simp; (try w_num); exact hK)); (focus (intro _; simp [go_sem, *]; done)); (try walk_nrm))
    (co_applyP gd_val T rfl rfl (by k_ne) ?_ ?_ ?_; (focus (intro _ K hK; go_simp; (try w_num); exact hK)); (focus (intro _; simp [go_sem, *]; done)); (try walk_nrm))
    refine GD.stop (fun w₂ h₂ => atW_cas (v := 0) (by omega) ⟨rfl, h₂.down 1 hcv, fun hw => ?_, fun v' hv' hw => ?_⟩)
    · have e1 : (((0 + 1 : Nat) : Int)) * KK + 1 = 4294967297 := by decide
      have e2 : (((0 + 1 : Nat) : Int)) * KK = 4294967296 := by decide
      simp only [e2] at hw
      simp only [e1]
      refine ⟨_, (stepG_cas_hit (v := 4294967296) (n := 4294967297) rfl rfl (by k_ne) rfl H.f_casU64 (x_casU64_n Tryz.link) (x_casU64_b Tryz.link) (x_casU64_x Tryz.link) .u64 (x_casU64_f Tryz.link) rfl rfl rfl hw.cellSt (hw.thaw 0)).trans rfl, 200, ?_⟩
      clear T TS TR hwi hcv h₂ hM e0 e1 e2
      have hwi : LB x (w₂.setCell (stA x.Wg) (.int .u64 4294967297)) := ⟨⟨_, _, hw.setSt 4294967297⟩⟩
      generalize w₂.setCell (stA x.Wg) (.int .u64 4294967297) = w at hwi ⊢
      clear hw
      have T := tM0 x
      have TWR : ∀ (d : Nat) (w : World), x.DM d w w #[Go.ConcR.mk (.write ⟨x.Wg, 1, none⟩)] := fun d w => ⟨rfl, fun e' he' => by rw [Array.mem_singleton] at he'; subst he'; exact .inr (.inl ⟨_, rfl, .inr rfl⟩)⟩
      walk_nrm
      (co_applyP gd_val T rfl rfl (by k_ne) ?_ ?_ ?_; (focus (intro _ K hK; go_simp; (try w_num); exact hK)); (focus (intro _; simp [go_sem, *]; done)); (try walk_nrm))
      with_reducible refine gd_c T (G_running _ _) (fun _ => stepG_region_end) ?_
      with_reducible refine gd_c T (G_running _ _) (fun _ => stepG_ret') ?_
      (refine gd_leave1 T rfl rfl Tryz.func46 rfl ?_; (try walk_nrm))
      with_reducible refine gd_c T (G_running _ _) (fun _ => stepG_region_end) ?_
      (refine gd_c T rfl (fun _ => stepG_cond (t := true) rfl) ?_; simp only [if_true, if_false, Bool.false_eq_true, ↓reduceIte])
      with_reducible refine gd_c T (G_running _ _) (fun _ => stepG_seq) ?_
      with_reducible refine gd_c T (G_running _ _) (fun _ => stepG_seq) ?_
      ((with_reducible refine gd_c T (G_running _ _) (fun _ => stepG_region) ?_); simp only [List.size_toArray, List.length_cons, List.length_nil, Nat.reduceAdd, Nat.zero_add, List.range, List.range.loop])
      (co_applyP gd_val T rfl rfl (by k_ne) ?_ ?_ ?_; (focus (intro _ K hK; go_simp; (try w_num); exact hK)); (focus (intro _; simp [go_sem, *]; done)); (try walk_nrm))
      (co_applyP gd_val T rfl rfl (by k_ne) ?_ ?_ ?_; (focus (intro _ K hK; go_simp; (try w_num); exact hK)); (focus (intro _; simp [go_sem, *]; done)); (try walk_nrm))
      (co_applyP gd_val T rfl rfl (by k_ne) ?_ ?_ ?_; (focus (intro _ K hK; go_simp; (try w_num); exact hK)); (focus (intro _; simp [go_sem, *]; done)); (try walk_nrm))
      (co_applyP gd_val T rfl rfl (by k_ne) ?_ ?_ ?_; (focus (intro _ K hK; go_simp; (try w_num); exact hK)); (focus (intro _; simp [go_sem, *]; done)); (try walk_nrm))
      with_reducible refine gd_c T (G_running _ _) (fun _ => stepG_region_end) ?_
      (refine gd_c T rfl (fun _ => stepG_cond (t := true) rfl) ?_; simp only [if_true, if_false, Bool.false_eq_true, ↓reduceIte])
      ((with_reducible refine gd_c T (G_running _ _) (fun _ => stepG_region) ?_); simp only [List.size_toArray, List.length_cons, List.length_nil, Nat.reduceAdd, Nat.zero_add, List.range, List.range.loop])
      (co_applyP gd_val T rfl rfl (by k_ne) ?_ ?_ ?_; (focus (intro _ K hK; go_simp; (try w_num); exact hK)); (focus (intro _; simp [go_sem, *]; done)); (try walk_nrm))
      (co_applyP gd_val T rfl rfl (by k_ne) ?_ ?_ ?_; (focus (intro _ K hK; go_simp; (try w_num); exact hK)); (focus (intro _; simp [go_sem, *]; done)); (try walk_nrm))
      (co_applyP gd_val T rfl rfl (by k_ne) ?_ ?_ ?_; (focus (intro _ K hK; go_simp; (try w_num); exact hK)); (focus (intro _; simp [go_sem, *]; done)); (try walk_nrm))
      (co_applyP gd_val' T rfl rfl (by k_ne) ?_ ?_ ?_; (focus (intro w₁ h₁ K hK; obtain ⟨_, hcc⟩ := lcell1 (h₁.live hwi.live); have hcv := run_convert_to_unsafe (P := Tryz.prog) H.underlying_tPU32 H.underlying_tUP H.room_tU32 hcc; go_simp; exact hK)); (focus (intro w₁ h₁; have hce := fun es => events_convert_to_unsafe (P := Tryz.prog) H.underlying_tPU32 H.underlying_tUP H.room_tU32 (lcell1 (h₁.live hwi.live)).choose_spec es; simp [go_sem, hce]; done)); (try walk_nrm))
      (refine gd_ev T.tr (Go.ConcR.mk (.write ⟨x.Wg, 1, none⟩)) rfl (fun w => TWR _ w) rfl (fun _ => stepG_markAt .write (by simp) rfl rfl (by k_ne) rfl H.f_raceWrite (x_raceWrite_n Tryz.link) (x_raceWrite_b Tryz.link) (x_raceWrite_x Tryz.link) (x_raceWrite_f Tryz.link) (ad := ⟨x.Wg, 1, none⟩) (by simp [Act.eval] <;> rfl)) ?_; (try walk_nrm))
      with_reducible refine gd_c T (G_running _ _) (fun _ => stepG_region_end) ?_
      with_reducible refine gd_c T (G_running _ _) (fun _ => stepG_seq) ?_
      ((with_reducible refine gd_c T (G_running _ _) (fun _ => stepG_region) ?_); simp only [List.size_toArray, List.length_cons, List.length_nil, Nat.reduceAdd, Nat.zero_add, List.range, List.range.loop])
      (co_applyP gd_val T rfl rfl (by k_ne) ?_ ?_ ?_; (focus (intro _ K hK; go_simp; (try w_num); exact hK)); (focus (intro _; simp [go_sem, *]; done)); (try walk_nrm))
      with_reducible refine gd_c T (G_running _ _) (fun _ => stepG_region_end) ?_
      with_reducible refine gd_c T (G_running _ _) (fun _ => stepG_seq) ?_
      with_reducible refine gd_c T (G_running _ _) (fun _ => stepG_seq) ?_
      ((with_reducible refine gd_c T (G_running _ _) (fun _ => stepG_region) ?_); simp only [List.size_toArray, List.length_cons, List.length_nil, Nat.reduceAdd, Nat.zero_add, List.range, List.range.loop])
      (co_applyP gd_val T rfl rfl (by k_ne) ?_ ?_ ?_; (focus (intro _ K hK; go_simp; (try w_num); exact hK)); (focus (intro _; simp [go_sem, *]; done)); (try walk_nrm))
      (co_applyP gd_val T rfl rfl (by k_ne) ?_ ?_ ?_; (focus (intro _ K hK; go_simp; (try w_num); exact hK)); (focus (intro _; simp [go_sem, *]; done)); (try walk_nrm))
      (co_applyP gd_val T rfl rfl (by k_ne) ?_ ?_ ?_; (focus (intro _ K hK; go_simp; (try w_num); exact hK)); (focus (intro _; simp [go_sem, *]; done)); (try walk_nrm))
      (co_applyP gd_val T rfl rfl (by k_ne) ?_ ?_ ?_; (focus (intro _ K hK; go_simp; (try w_num); exact hK)); (focus (intro _; simp [go_sem, *]; done)); (try walk_nrm))
      (refine gd_c T rfl (fun _ => stepG_unwanted rfl rfl) ?_; (try walk_nrm))
      (co_applyP gd_val T rfl rfl (by k_ne) ?_ ?_ ?_; (focus (intro _ K hK; go_simp; (try w_num); exact hK)); (focus (intro _; simp [go_sem, *]; done)); (try walk_nrm))
      with_reducible refine gd_c T (G_running _ _) (fun _ => stepG_region_end) ?_
      (refine gd_c T rfl (fun _ => stepG_cond (t := false) rfl) ?_; simp only [if_true, if_false, Bool.false_eq_true, ↓reduceIte])
      with_reducible refine gd_c T (G_running _ _) (fun _ => stepG_skip) ?_
      with_reducible refine gd_c T (G_running _ _) (fun _ => stepG_seq) ?_
      ((with_reducible refine gd_c T (G_running _ _) (fun _ => stepG_region) ?_); simp only [List.size_toArray, List.length_cons, List.length_nil, Nat.reduceAdd, Nat.zero_add, List.range, List.range.loop])
      (co_applyP gd_val T rfl rfl (by k_ne) ?_ ?_ ?_; (focus (intro _ K hK; go_simp; (try w_num); exact hK)); (focus (intro _; simp [go_sem, *]; done)); (try walk_nrm))
      (co_applyP gd_val T rfl rfl (by k_ne) ?_ ?_ ?_; (focus (intro _ K hK; go_simp; (try w_num); exact hK)); (focus (intro _; simp [go_sem, *]; done)); (try walk_nrm))
      (co_applyP gd_val T rfl rfl (by k_ne) ?_ ?_ ?_; (focus (intro _ K hK; go_simp; (try w_num); exact hK)); (focus (intro _; simp [go_sem, *]; done)); (try walk_nrm))
      (co_applyP gd_val T rfl rfl (by k_ne) ?_ ?_ ?_; (focus (intro _ K hK; go_simp; (try w_num); exact hK)); (focus (intro _; simp [go_sem, *]; done)); (try walk_nrm))
      refine GD.stop (fun w₃ h₃ => ⟨rfl, rfl, fun st hst => stepG_semacquire_wait rfl rfl rfl H.f_semacquire (x_semacquire_n Tryz.link) (x_semacquire_b Tryz.link) (x_semacquire_x Tryz.link) (x_semacquire_f Tryz.link) (ad := smA x.Wg) (by simp [Act.eval, smA]) hst.cellSm, fun hw3 => ⟨_, (stepG_semacquire (ad := smA x.Wg) (n := 1) rfl rfl (by k_ne) rfl H.f_semacquire (x_semacquire_n Tryz.link) (x_semacquire_b Tryz.link) (x_semacquire_x Tryz.link) (x_semacquire_f Tryz.link) (by simp [Act.eval, smA]) hw3.cellSm (by decide) (hw3.thaw 1)).trans rfl, 200, ?_⟩⟩)
      clear T hwi h₃ TWR
      have hw4 := hw3.setSm 0
      have hcv : x.CL 0 (w₃.setCell (smA x.Wg) (.int .u32 0)) := ⟨0, Nat.le_refl _, by simpa using hw4⟩
      have hwi : LB x (w₃.setCell (smA x.Wg) (.int .u32 0)) := ⟨⟨_, _, hw4⟩⟩
      clear hw3 hw4
      generalize w₃.setCell (smA x.Wg) (.int .u32 0) = w at hwi hcv ⊢
      have T := tM x
      walk_nrm
      with_reducible refine gd_c T (G_running _ _) (fun _ => stepG_region_end) ?_
      with_reducible refine gd_c T (G_running _ _) (fun _ => stepG_seq) ?_
      ((with_reducible refine gd_c T (G_running _ _) (fun _ => stepG_region) ?_); simp only [List.size_toArray, List.length_cons, List.length_nil, Nat.reduceAdd, Nat.zero_add, List.range, List.range.loop])
      (co_applyP gd_val T rfl rfl (by k_ne) ?_ ?_ ?_; (focus (intro _ K hK; go_simp; (try w_num); exact hK)); (focus (intro _; simp [go_sem, *]; done)); (try walk_nrm))
      (co_applyP gd_val T rfl rfl (by k_ne) ?_ ?_ ?_; (focus (intro _ K hK; go_simp; (try w_num); exact hK)); (focus (intro _; simp [go_sem, *]; done)); (try walk_nrm))
      (co_applyP gd_val T rfl rfl (by k_ne) ?_ ?_ ?_; (focus (intro _ K hK; go_simp; (try w_num); exact hK)); (focus (intro _; simp [go_sem, *]; done)); (try walk_nrm))
      (refine gd_call T rfl rfl (by k_ne) rfl Tryz.func40 cn40 rfl ?_; walk_nrmf Tryz.f40)
      with_reducible refine gd_c T (G_running _ _) (fun _ => stepG_seq) ?_
      ((with_reducible refine gd_c T (G_running _ _) (fun _ => stepG_region) ?_); simp only [List.size_toArray, List.length_cons, List.length_nil, Nat.reduceAdd, Nat.zero_add, List.range, List.range.loop])
      (co_applyP gd_val T rfl rfl (by k_ne) ?_ ?_ ?_; (focus (intro _ K hK; go_simp; (try w_num); exact hK)); (focus (intro _; simp [go_sem, *]; done)); (try walk_nrm))
      with_reducible refine gd_c T (G_running _ _) (fun _ => stepG_region_end) ?_
      with_reducible refine gd_c T (G_running _ _) (fun _ => stepG_seq) ?_
      ((with_reducible refine gd_c T (G_running _ _) (fun _ => stepG_region) ?_); simp only [List.size_toArray, List.length_cons, List.length_nil, Nat.reduceAdd, Nat.zero_add, List.range, List.range.loop])
      (co_applyP gd_val T rfl rfl (by k_ne) ?_ ?_ ?_; (focus (intro _ K hK; go_simp; (try w_num); exact hK)); (focus (intro _; simp [go_sem, *]; done)); (try walk_nrm))
      (co_applyP gd_val T rfl rfl (by k_ne) ?_ ?_ ?_; (focus (intro _ K hK; go_simp; (try w_num); exact hK)); (focus (intro _; simp [go_sem, *]; done)); (try walk_nrm))
      (co_applyP gd_val T rfl rfl (by k_ne) ?_ ?_ ?_; (focus (intro _ K hK; go_simp; (try w_num); exact hK)); (focus (intro _; simp [go_sem, *]; done)); (try walk_nrm))
      refine GD.step rfl (fun w₅ h₅ => ?_)
      obtain ⟨v', hv', hwg⟩ := h₅.down 0 hcv
      obtain rfl : v' = 0 := by omega
      replace hwg : WgAt x.ty x.Wg w₅ 0 0 := by simpa using hwg
      replace hwi : LB x w₅ := ⟨h₅.live hwi.live⟩
      replace hcv : x.CL 0 w₅ := h₅.down 0 hcv
      clear h₅ hv'
      have TS : ∀ (d : Nat) (w : World) (e : Event), e.mute = true → x.DM d w w #[e] := fun d w e he => ⟨rfl, fun e' he' => by rw [Array.mem_singleton] at he'; subst he'; exact .inr (.inr (.inr he))⟩
      rw [stepG_load_atomic (v := 0) rfl rfl (by k_ne) rfl H.f_loadU64 (x_loadU64_n Tryz.link) (x_loadU64_b Tryz.link) (x_loadU64_x Tryz.link) .u64 (x_loadU64_f Tryz.link) rfl hwg.cellSt]
      simp only [goes_go]
      refine ⟨⟨rfl, fun e' he' => by rw [Array.mem_singleton] at he'; subst he'; exact .inl ⟨stA x.Wg, false, rfl, rfl⟩⟩, ?_⟩
      have db0 : deafBehind 1 #[(⟨.cell (stA x.Wg), false, true⟩ : Event)] = 1 := rfl
      rw [db0]
      clear db0 hwg
      walk_nrm
      (co_applyP gd_val T rfl rfl (by k_ne) ?_ ?_ ?_; (focus (intro _ K hK; go_simp; (try w_num); exact hK)); (focus (intro _; simp [go_sem, *]; done)); (try walk_nrm))
      with_reducible refine gd_c T (G_running _ _) (fun _ => stepG_region_end) ?_
      with_reducible refine gd_c T (G_running _ _) (fun _ => stepG_ret') ?_
      (refine gd_leave1 T rfl rfl Tryz.func40 rfl ?_; (try walk_nrm))
      (co_applyP gd_val T rfl rfl (by k_ne) ?_ ?_ ?_; (focus (intro _ K hK; go_simp; (try w_num); exact hK)); (focus (intro _; simp [go_sem, *]; done)); (try walk_nrm))
      (co_applyP gd_val T rfl rfl (by k_ne) ?_ ?_ ?_; (focus (intro _ K hK; go_simp; (try w_num); exact hK)); (focus (intro _; simp [go_sem, *]; done)); (try walk_nrm))
      with_reducible refine gd_c T (G_running _ _) (fun _ => stepG_region_end) ?_
      with_reducible refine gd_c T (G_running _ _) (fun _ => stepG_seq) ?_
      (refine gd_c T rfl (fun _ => stepG_cond (t := true) rfl) ?_; simp only [if_true, if_false, Bool.false_eq_true, ↓reduceIte])
      with_reducible refine gd_c T (G_running _ _) (fun _ => stepG_seq) ?_
      ((with_reducible refine gd_c T (G_running _ _) (fun _ => stepG_region) ?_); simp only [List.size_toArray, List.length_cons, List.length_nil, Nat.reduceAdd, Nat.zero_add, List.range, List.range.loop])
      (refine gd_said T.tr _ (fun w => TS _ w _ rfl) rfl (fun _ => stepG_mark0 .enable (by simp) rfl rfl (by k_ne) rfl H.f_enable (x_enable_n Tryz.link) (x_enable_b Tryz.link) (x_enable_x Tryz.link) (x_enable_f Tryz.link)) ?_; simp only [deafBehind_enable, Nat.sub_self, Nat.reduceSub]; (try walk_nrm))
      with_reducible refine gd_c T (G_running _ _) (fun _ => stepG_region_end) ?_
      ((with_reducible refine gd_c T (G_running _ _) (fun _ => stepG_region) ?_); simp only [List.size_toArray, List.length_cons, List.length_nil, Nat.reduceAdd, Nat.zero_add, List.range, List.range.loop])
      (co_applyP gd_val T rfl rfl (by k_ne) ?_ ?_ ?_; (focus (intro _ K hK; go_simp; (try w_num); exact hK)); (focus (intro _; simp [go_sem, *]; done)); (try walk_nrm))
      (co_applyP gd_val' T rfl rfl (by k_ne) ?_ ?_ ?_; (focus (intro w₁ h₁ K hK; obtain ⟨_, hcc⟩ := lcell0 (h₁.live hwi.live); have hcv := run_convert_to_unsafe (P := Tryz.prog) H.underlying_tWgP H.underlying_tUP H.room_tWg hcc; go_simp; exact hK)); (focus (intro w₁ h₁; have hce := fun es => events_convert_to_unsafe (P := Tryz.prog) H.underlying_tWgP H.underlying_tUP H.room_tWg (lcell0 (h₁.live hwi.live)).choose_spec es; simp [go_sem, hce]; done)); (try walk_nrm))
      refine GD.stop (fun w₆ h₆ => ?_)
      obtain ⟨v', hv', hwg⟩ := h₆.down 0 hcv
      obtain rfl : v' = 0 := by omega
      refine ⟨rfl, rfl, by simpa using hwg, _, stepG_markAt .acquire (by simp) rfl rfl (by k_ne) rfl H.f_acquire (x_acquire_n Tryz.link) (x_acquire_b Tryz.link) (x_acquire_x Tryz.link) (x_acquire_f Tryz.link) (by simp [Act.eval, stA]), 100, fun w => ?_⟩
      clear T TS hwi hcv h₆ hwg
      have T := tN
      walk_nrm
      with_reducible refine gd_c T (G_running _ _) (fun _ => stepG_region_end) ?_
      with_reducible refine gd_c T (G_running _ _) (fun _ => stepG_seq) ?_
      with_reducible refine gd_c T (G_running _ _) (fun _ => stepG_seq) ?_
      ((with_reducible refine gd_c T (G_running _ _) (fun _ => stepG_region) ?_); simp only [List.size_toArray, List.length_cons, List.length_nil, Nat.reduceAdd, Nat.zero_add, List.range, List.range.loop])
      (co_applyP gd_val T rfl rfl (by k_ne) ?_ ?_ ?_; (focus (intro _ K hK; go_simp; (try w_num); exact hK)); (focus (intro _; simp [go_sem, *]; done)); (try walk_nrm))
      with_reducible refine gd_c T (G_running _ _) (fun _ => stepG_region_end) ?_
      (refine gd_c T rfl (fun _ => stepG_cond (t := false) rfl) ?_; simp only [if_true, if_false, Bool.false_eq_true, ↓reduceIte])
      with_reducible refine gd_c T (G_running _ _) (fun _ => stepG_skip) ?_
      with_reducible refine gd_c T (G_running _ _) (fun _ => stepG_ret') ?_
      (refine gd_leave0 T rfl rfl Tryz.func26 rfl ?_; (try walk_nrm))
      exact GD.stop (fun _ _ => ⟨rfl, rfl⟩)
    · obtain rfl : v' = 0 := by omega
      have e1 : ((0 : Nat) : Int) * KK = 0 := by decide
      simp only [e1] at hw
      have hcv' : x.CL 0 w₂ := ⟨0, by omega, by simpa only [e1] using hw⟩
      refine ⟨_, (stepG_cas_miss (v := 0) (old := 4294967296) (n := 4294967297) rfl rfl (by k_ne) rfl H.f_casU64 (x_casU64_n Tryz.link) (x_casU64_b Tryz.link) (x_casU64_x Tryz.link) .u64 (x_casU64_f Tryz.link) rfl rfl rfl hw.cellSt (hw.thaw 0) (by decide)).trans rfl, M + 100, ?_⟩
      replace hwi := h₂.wi hwi
      clear h₂ hw hcv e0 e1
      walk_nrm
      (co_applyP gd_val T rfl rfl (by k_ne) ?_ ?_ ?_; (focus (intro _ K hK; go_simp; (try w_num); exact hK)); (focus (intro _; simp [go_sem, *]; done)); (try walk_nrm))
      with_reducible refine gd_c T (G_running _ _) (fun _ => stepG_region_end) ?_
      with_reducible refine gd_c T (G_running _ _) (fun _ => stepG_ret') ?_
      (refine gd_leave1 T rfl rfl Tryz.func46 rfl ?_; (try walk_nrm))
      with_reducible refine gd_c T (G_running _ _) (fun _ => stepG_region_end) ?_
      (refine gd_c T rfl (fun _ => stepG_cond (t := false) rfl) ?_; simp only [if_true, if_false, Bool.false_eq_true, ↓reduceIte])
      with_reducible refine gd_c T (G_running _ _) (fun _ => stepG_skip) ?_
      with_reducible refine gd_c T (G_running _ _) (fun _ => stepG_inBlock) ?_
      with_reducible refine gd_c T (G_running _ _) (fun _ => stepG_inLoop) ?_
      exact (hM 0 (by omega) _ _ rfl rfl hwi hcv').mono (by omega)
  · have e0 : ((2 : Nat) : Int) * KK = 8589934592 := by decide
    simp only [e0]
    (co_applyP gd_val T rfl rfl (by k_ne) ?_ ?_ ?_; (focus (intro _ K hK; go_simp; (try w_num); exact hK)); (focus (intro _; simp [go_sem, *]; done)); (try walk_nrm))
    with_reducible refine gd_c T (G_running _ _) (fun _ => stepG_region_end) ?_
    with_reducible refine gd_c T (G_running _ _) (fun _ => stepG_ret') ?_
    (refine gd_leave1 T rfl rfl Tryz.func40 rfl ?_; (try walk_nrm))
    (co_applyP gd_val T rfl rfl (by k_ne) ?_ ?_ ?_; (focus (intro _ K hK; go_simp; (try w_num); exact hK)); (focus (intro _; simp [go_sem, *]; done)); (try walk_nrm))
    with_reducible refine gd_c T (G_running _ _) (fun _ => stepG_region_end) ?_
    with_reducible refine gd_c T (G_running _ _) (fun _ => stepG_seq) ?_
    ((with_reducible refine gd_c T (G_running _ _) (fun _ => stepG_region) ?_); simp only [List.size_toArray, List.length_cons, List.length_nil, Nat.reduceAdd, Nat.zero_add, List.range, List.range.loop])
    (co_applyP gd_val T rfl rfl (by k_ne) ?_ ?_ ?_; (focus (intro _ K hK; go_simp; (try w_num); exact hK)); (focus (intro _; simp [go_sem, *]; done)); (try walk_nrm))
    (co_applyP gd_val T rfl rfl (by k_ne) ?_ ?_ ?_; (focus (intro _ K hK; go_simp; (try w_num); exact hK)); (focus (intro _; simp [go_sem, *]; done)); (try walk_nrm))
    (co_applyP gd_val T rfl rfl (by k_ne) ?_ ?_ ?_; (focus (intro _ K hK; go_simp; (try w_num); exact hK)); (focus (intro _; simp [go_sem, *]; done)); (try walk_nrm))
    (co_applyP gd_val T rfl rfl (by k_ne) ?_ ?_ ?_; (focus (intro _ K hK; go_simp; (try w_num); exact hK)); (focus (intro _; simp [go_sem, *]; done)); (try walk_nrm))
    with_reducible refine gd_c T (G_running _ _) (fun _ => stepG_region_end) ?_
    with_reducible refine gd_c T (G_running _ _) (fun _ => stepG_seq) ?_
    ((with_reducible refine gd_c T (G_running _ _) (fun _ => stepG_region) ?_); simp only [List.size_toArray, List.length_cons, List.length_nil, Nat.reduceAdd, Nat.zero_add, List.range, List.range.loop])
    (co_applyP gd_val T rfl rfl (by k_ne) ?_ ?_ ?_; (focus (intro _ K hK; go_simp; (try w_num); exact hK)); (focus (intro _; simp [go_sem, *]; done)); (try walk_nrm))
    (co_applyP gd_val T rfl rfl (by k_ne) ?_ ?_ ?_; (focus (intro _ K hK; go_simp; (try w_num); exact hK)); (focus (intro _; simp [go_sem, *]; done)); (try walk_nrm))
    (co_applyP gd_val T rfl rfl (by k_ne) ?_ ?_ ?_; (focus (intro _ K hK; go_simp; (try w_num); exact hK)); (focus (intro _; simp [go_sem, *]; done)); (try walk_nrm))
    (co_applyP gd_val T rfl rfl (by k_ne) ?_ ?_ ?_; (focus (intro _ K hK; go_simp; (try w_num); exact hK)); (focus (intro _; simp [go_sem, *]; done)); (try walk_nrm))
    with_reducible refine gd_c T (G_running _ _) (fun _ => stepG_region_end) ?_
    with_reducible refine gd_c T (G_running _ _) (fun _ => stepG_seq) ?_
    with_reducible refine gd_c T (G_running _ _) (fun _ => stepG_seq) ?_
    ((with_reducible refine gd_c T (G_running _ _) (fun _ => stepG_region) ?_); simp only [List.size_toArray, List.length_cons, List.length_nil, Nat.reduceAdd, Nat.zero_add, List.range, List.range.loop])
    (co_applyP gd_val T rfl rfl (by k_ne) ?_ ?_ ?_; (focus (intro _ K hK; go_simp; (try w_num); exact hK)); (focus (intro _; simp [go_sem, *]; done)); (try walk_nrm))
    (co_applyP gd_val T rfl rfl (by k_ne) ?_ ?_ ?_; (focus (intro _ K hK; go_simp; (try w_num); exact hK)); (focus (intro _; simp [go_sem, *]; done)); (try walk_nrm))
    with_reducible refine gd_c T (G_running _ _) (fun _ => stepG_region_end) ?_
    (refine gd_c T rfl (fun _ => stepG_cond (t := false) rfl) ?_; simp only [if_true, if_false, Bool.false_eq_true, ↓reduceIte])
    with_reducible refine gd_c T (G_running _ _) (fun _ => stepG_skip) ?_
    with_reducible refine gd_c T (G_running _ _) (fun _ => stepG_seq) ?_
    ((with_reducible refine gd_c T (G_running _ _) (fun _ => stepG_region) ?_); simp only [List.size_toArray, List.length_cons, List.length_nil, Nat.reduceAdd, Nat.zero_add, List.range, List.range.loop])
    (co_applyP gd_val T rfl rfl (by k_ne) ?_ ?_ ?_; (focus (intro _ K hK; go_simp; (try w_num); exact hK)); (focus (intro _; simp [go_sem, *]; done)); (try walk_nrm))
    (co_applyP gd_val T rfl rfl (by k_ne) ?_ ?_ ?_; (focus (intro _ K hK; go_simp; (try w_num); exact hK)); (focus (intro _; simp [go_sem, *]; done)); (try walk_nrm))
    (co_applyP gd_val T rfl rfl (by k_ne) ?_ ?_ ?_; (focus (intro _ K hK; go_simp; (try w_num); exact hK)); (focus (intro _; simp [go_sem, *]; done)); (try walk_nrm))
    (co_applyP gd_val T rfl rfl (by k_ne) ?_ ?_ ?_; (focus (intro _ K hK; go_simp; (try w_num); exact hK)); (focus (intro _; simp [go_sem, *]; done)); (try walk_nrm))
    (co_applyP gd_val T rfl rfl (by k_ne) ?_ ?_ ?_; (focus (intro _ K hK; go_simp; (try w_num); exact hK)); (focus (intro _; simp [go_sem, *]; done)); (try walk_nrm))
    (co_applyP gd_val T rfl rfl (by k_ne) ?_ ?_ ?_; (focus (intro _ K hK; go_simp; (try w_num); exact hK)); (focus (intro _; simp [go_sem, *]; done)); (try walk_nrm))
    (refine gd_call T rfl rfl (by k_ne) rfl Tryz.func46 cn46 rfl ?_; walk_nrmf Tryz.f46)
    with_reducible refine gd_c T (G_running _ _) (fun _ => stepG_seq) ?_
    ((with_reducible refine gd_c T (G_running _ _) (fun _ => stepG_region) ?_); simp only [List.size_toArray, List.length_cons, List.length_nil, Nat.reduceAdd, Nat.zero_add, List.range, List.range.loop])
    (co_applyP gd_val T rfl rfl (by k_ne) ?_ ?_ ?_; (focus (intro _ K hK; go_simp; (try w_num); exact hK)); (focus (intro _; simp [go_sem, *]; done)); (try walk_nrm))
    with_reducible refine gd_c T (G_running _ _) (fun _ => stepG_region_end) ?_
    with_reducible refine gd_c T (G_running _ _) (fun _ => stepG_seq) ?_
    ((with_reducible refine gd_c T (G_running _ _) (fun _ => stepG_region) ?_); simp only [List.size_toArray, List.length_cons, List.length_nil, Nat.reduceAdd, Nat.zero_add, List.range, List.range.loop])
    (co_applyP gd_val T rfl rfl (by k_ne) ?_ ?_ ?_; (focus (intro _ K hK; go_simp; (try w_num); exact hK)); (focus (intro _; simp [go_sem, *]; done)); (try walk_nrm))
    (co_applyP gd_val T rfl rfl (by k_ne) ?_ ?_ ?_; (focus (intro _ K hK; go_simp; (try w_num); exact hK)); (focus (intro _; simp [go_sem, *]; done)); (try walk_nrm))
    (co_applyP gd_val T rfl rfl (by k_ne) ?_ ?_ ?_; (focus (intro _ K hK; go_simp; (try w_num); exact hK)); (focus (intro _; simp [go_sem, *]; done)); (try walk_nrm))
    (co_applyP gd_val T rfl rfl (by k_ne) ?_ ?_ ?_; (focus (intro _ K hK; go_simp; (try w_num); exact hK)); (focus (intro _; simp [go_sem, *]; done)); (try walk_nrm))
    (co_applyP gd_val T rfl rfl (by k_ne) ?_ ?_ ?_; (focus (intro _ K hK; go_simp; (try w_num); exact hK)); (focus (intro _; simp [go_sem, *]; done)); (try walk_nrm))
    refine GD.stop (fun w₂ h₂ => atW_cas (v := 1) (by omega) ⟨rfl, h₂.down 2 hcv, fun hw => ?_, fun v' hv' hw => ?_⟩)
    · have e1 : (((1 + 1 : Nat) : Int)) * KK + 1 = 8589934593 := by decide
      have e2 : (((1 + 1 : Nat) : Int)) * KK = 8589934592 := by decide
      simp only [e2] at hw
      simp only [e1]
      refine ⟨_, (stepG_cas_hit (v := 8589934592) (n := 8589934593) rfl rfl (by k_ne) rfl H.f_casU64 (x_casU64_n Tryz.link) (x_casU64_b Tryz.link) (x_casU64_x Tryz.link) .u64 (x_casU64_f Tryz.link) rfl rfl rfl hw.cellSt (hw.thaw 0)).trans rfl, 200, ?_⟩
      clear T TS TR hwi hcv h₂ hM e0 e1 e2
      have hwi : LB x (w₂.setCell (stA x.Wg) (.int .u64 8589934593)) := ⟨⟨_, _, hw.setSt 8589934593⟩⟩
      generalize w₂.setCell (stA x.Wg) (.int .u64 8589934593) = w at hwi ⊢
      clear hw
      have T := tM0 x
      have TWR : ∀ (d : Nat) (w : World), x.DM d w w #[Go.ConcR.mk (.write ⟨x.Wg, 1, none⟩)] := fun d w => ⟨rfl, fun e' he' => by rw [Array.mem_singleton] at he'; subst he'; exact .inr (.inl ⟨_, rfl, .inr rfl⟩)⟩
      walk_nrm
      (co_applyP gd_val T rfl rfl (by k_ne) ?_ ?_ ?_; (focus (intro _ K hK; go_simp; (try w_num); exact hK)); (focus (intro _; simp [go_sem, *]; done)); (try walk_nrm))
      with_reducible refine gd_c T (G_running _ _) (fun _ => stepG_region_end) ?_
      with_reducible refine gd_c T (G_running _ _) (fun _ => stepG_ret') ?_
      (refine gd_leave1 T rfl rfl Tryz.func46 rfl ?_; (try walk_nrm))
      with_reducible refine gd_c T (G_running _ _) (fun _ => stepG_region_end) ?_
      (refine gd_c T rfl (fun _ => stepG_cond (t := true) rfl) ?_; simp only [if_true, if_false, Bool.false_eq_true, ↓reduceIte])
      with_reducible refine gd_c T (G_running _ _) (fun _ => stepG_seq) ?_
      with_reducible refine gd_c T (G_running _ _) (fun _ => stepG_seq) ?_
      ((with_reducible refine gd_c T (G_running _ _) (fun _ => stepG_region) ?_); simp only [List.size_toArray, List.length_cons, List.length_nil, Nat.reduceAdd, Nat.zero_add, List.range, List.range.loop])
      (co_applyP gd_val T rfl rfl (by k_ne) ?_ ?_ ?_; (focus (intro _ K hK; go_simp; (try w_num); exact hK)); (focus (intro _; simp [go_sem, *]; done)); (try walk_nrm))
      (co_applyP gd_val T rfl rfl (by k_ne) ?_ ?_ ?_; (focus (intro _ K hK; go_simp; (try w_num); exact hK)); (focus (intro _; simp [go_sem, *]; done)); (try walk_nrm))
      (co_applyP gd_val T rfl rfl (by k_ne) ?_ ?_ ?_; (focus (intro _ K hK; go_simp; (try w_num); exact hK)); (focus (intro _; simp [go_sem, *]; done)); (try walk_nrm))
      (co_applyP gd_val T rfl rfl (by k_ne) ?_ ?_ ?_; (focus (intro _ K hK; go_simp; (try w_num); exact hK)); (focus (intro _; simp [go_sem, *]; done)); (try walk_nrm))
      with_reducible refine gd_c T (G_running _ _) (fun _ => stepG_region_end) ?_
      (refine gd_c T rfl (fun _ => stepG_cond (t := true) rfl) ?_; simp only [if_true, if_false, Bool.false_eq_true, ↓reduceIte])
      ((with_reducible refine gd_c T (G_running _ _) (fun _ => stepG_region) ?_); simp only [List.size_toArray, List.length_cons, List.length_nil, Nat.reduceAdd, Nat.zero_add, List.range, List.range.loop])
      (co_applyP gd_val T rfl rfl (by k_ne) ?_ ?_ ?_; (focus (intro _ K hK; go_simp; (try w_num); exact hK)); (focus (intro _; simp [go_sem, *]; done)); (try walk_nrm))
      (co_applyP gd_val T rfl rfl (by k_ne) ?_ ?_ ?_; (focus (intro _ K hK; go_simp; (try w_num); exact hK)); (focus (intro _; simp [go_sem, *]; done)); (try walk_nrm))
      (co_applyP gd_val T rfl rfl (by k_ne) ?_ ?_ ?_; (focus (intro _ K hK; go_simp; (try w_num); exact hK)); (focus (intro _; simp [go_sem, *]; done)); (try walk_nrm))
      (co_applyP gd_val' T rfl rfl (by k_ne) ?_ ?_ ?_; (focus (intro w₁ h₁ K hK; obtain ⟨_, hcc⟩ := lcell1 (h₁.live hwi.live); have hcv := run_convert_to_unsafe (P := Tryz.prog) H.underlying_tPU32 H.underlying_tUP H.room_tU32 hcc; go_simp; exact hK)); (focus (intro w₁ h₁; have hce := fun es => events_convert_to_unsafe (P := Tryz.prog) H.underlying_tPU32 H.underlying_tUP H.room_tU32 (lcell1 (h₁.live hwi.live)).choose_spec es; simp [go_sem, hce]; done)); (try walk_nrm))
      (refine gd_ev T.tr (Go.ConcR.mk (.write ⟨x.Wg, 1, none⟩)) rfl (fun w => TWR _ w) rfl (fun _ => stepG_markAt .write (by simp) rfl rfl (by k_ne) rfl H.f_raceWrite (x_raceWrite_n Tryz.link) (x_raceWrite_b Tryz.link) (x_raceWrite_x Tryz.link) (x_raceWrite_f Tryz.link) (ad := ⟨x.Wg, 1, none⟩) (by simp [Act.eval] <;> rfl)) ?_; (try walk_nrm))
      with_reducible refine gd_c T (G_running _ _) (fun _ => stepG_region_end) ?_
      with_reducible refine gd_c T (G_running _ _) (fun _ => stepG_seq) ?_
      ((with_reducible refine gd_c T (G_running _ _) (fun _ => stepG_region) ?_); simp only [List.size_toArray, List.length_cons, List.length_nil, Nat.reduceAdd, Nat.zero_add, List.range, List.range.loop])
      (co_applyP gd_val T rfl rfl (by k_ne) ?_ ?_ ?_; (focus (intro _ K hK; go_simp; (try w_num); exact hK)); (focus (intro _; simp [go_sem, *]; done)); (try walk_nrm))
      with_reducible refine gd_c T (G_running _ _) (fun _ => stepG_region_end) ?_
      with_reducible refine gd_c T (G_running _ _) (fun _ => stepG_seq) ?_
      with_reducible refine gd_c T (G_running _ _) (fun _ => stepG_seq) ?_
      ((with_reducible refine gd_c T (G_running _ _) (fun _ => stepG_region) ?_); simp only [List.size_toArray, List.length_cons, List.length_nil, Nat.reduceAdd, Nat.zero_add, List.range, List.range.loop])
      (co_applyP gd_val T rfl rfl (by k_ne) ?_ ?_ ?_; (focus (intro _ K hK; go_simp; (try w_num); exact hK)); (focus (intro _; simp [go_sem, *]; done)); (try walk_nrm))
      (co_applyP gd_val T rfl rfl (by k_ne) ?_ ?_ ?_; (focus (intro _ K hK; go_simp; (try w_num); exact hK)); (focus (intro _; simp [go_sem, *]; done)); (try walk_nrm))
      (co_applyP gd_val T rfl rfl (by k_ne) ?_ ?_ ?_; (focus (intro _ K hK; go_simp; (try w_num); exact hK)); (focus (intro _; simp [go_sem, *]; done)); (try walk_nrm))
      (co_applyP gd_val T rfl rfl (by k_ne) ?_ ?_ ?_; (focus (intro _ K hK; go_simp; (try w_num); exact hK)); (focus (intro _; simp [go_sem, *]; done)); (try walk_nrm))
      (refine gd_c T rfl (fun _ => stepG_unwanted rfl rfl) ?_; (try walk_nrm))
      (co_applyP gd_val T rfl rfl (by k_ne) ?_ ?_ ?_; (focus (intro _ K hK; go_simp; (try w_num); exact hK)); (focus (intro _; simp [go_sem, *]; done)); (try walk_nrm))
      with_reducible refine gd_c T (G_running _ _) (fun _ => stepG_region_end) ?_
      (refine gd_c T rfl (fun _ => stepG_cond (t := false) rfl) ?_; simp only [if_true, if_false, Bool.false_eq_true, ↓reduceIte])
      with_reducible refine gd_c T (G_running _ _) (fun _ => stepG_skip) ?_
      with_reducible refine gd_c T (G_running _ _) (fun _ => stepG_seq) ?_
      ((with_reducible refine gd_c T (G_running _ _) (fun _ => stepG_region) ?_); simp only [List.size_toArray, List.length_cons, List.length_nil, Nat.reduceAdd, Nat.zero_add, List.range, List.range.loop])
      (co_applyP gd_val T rfl rfl (by k_ne) ?_ ?_ ?_; (focus (intro _ K hK; go_simp; (try w_num); exact hK)); (focus (intro _; simp [go_sem, *]; done)); (try walk_nrm))
      (co_applyP gd_val T rfl rfl (by k_ne) ?_ ?_ ?_; (focus (intro _ K hK; go_simp; (try w_num); exact hK)); (focus (intro _; simp [go_sem, *]; done)); (try walk_nrm))
      (co_applyP gd_val T rfl rfl (by k_ne) ?_ ?_ ?_; (focus (intro _ K hK; go_simp; (try w_num); exact hK)); (focus (intro _; simp [go_sem, *]; done)); (try walk_nrm))
      (co_applyP gd_val T rfl rfl (by k_ne) ?_ ?_ ?_; (focus (intro _ K hK; go_simp; (try w_num); exact hK)); (focus (intro _; simp [go_sem, *]; done)); (try walk_nrm))
      refine GD.stop (fun w₃ h₃ => ⟨rfl, rfl, fun st hst => stepG_semacquire_wait rfl rfl rfl H.f_semacquire (x_semacquire_n Tryz.link) (x_semacquire_b Tryz.link) (x_semacquire_x Tryz.link) (x_semacquire_f Tryz.link) (ad := smA x.Wg) (by simp [Act.eval, smA]) hst.cellSm, fun hw3 => ⟨_, (stepG_semacquire (ad := smA x.Wg) (n := 1) rfl rfl (by k_ne) rfl H.f_semacquire (x_semacquire_n Tryz.link) (x_semacquire_b Tryz.link) (x_semacquire_x Tryz.link) (x_semacquire_f Tryz.link) (by simp [Act.eval, smA]) hw3.cellSm (by decide) (hw3.thaw 1)).trans rfl, 200, ?_⟩⟩)
      clear T hwi h₃ TWR
      have hw4 := hw3.setSm 0
      have hcv : x.CL 0 (w₃.setCell (smA x.Wg) (.int .u32 0)) := ⟨0, Nat.le_refl _, by simpa using hw4⟩
      have hwi : LB x (w₃.setCell (smA x.Wg) (.int .u32 0)) := ⟨⟨_, _, hw4⟩⟩
      clear hw3 hw4
      generalize w₃.setCell (smA x.Wg) (.int .u32 0) = w at hwi hcv ⊢
      have T := tM x
      walk_nrm
      with_reducible refine gd_c T (G_running _ _) (fun _ => stepG_region_end) ?_
      with_reducible refine gd_c T (G_running _ _) (fun _ => stepG_seq) ?_
      ((with_reducible refine gd_c T (G_running _ _) (fun _ => stepG_region) ?_); simp only [List.size_toArray, List.length_cons, List.length_nil, Nat.reduceAdd, Nat.zero_add, List.range, List.range.loop])
      (co_applyP gd_val T rfl rfl (by k_ne) ?_ ?_ ?_; (focus (intro _ K hK; go_simp; (try w_num); exact hK)); (focus (intro _; simp [go_sem, *]; done)); (try walk_nrm))
      (co_applyP gd_val T rfl rfl (by k_ne) ?_ ?_ ?_; (focus (intro _ K hK; go_simp; (try w_num); exact hK)); (focus (intro _; simp [go_sem, *]; done)); (try walk_nrm))
      (co_applyP gd_val T rfl rfl (by k_ne) ?_ ?_ ?_; (focus (intro _ K hK; go_simp; (try w_num); exact hK)); (focus (intro _; simp [go_sem, *]; done)); (try walk_nrm))
      (refine gd_call T rfl rfl (by k_ne) rfl Tryz.func40 cn40 rfl ?_; walk_nrmf Tryz.f40)
      with_reducible refine gd_c T (G_running _ _) (fun _ => stepG_seq) ?_
      ((with_reducible refine gd_c T (G_running _ _) (fun _ => stepG_region) ?_); simp only [List.size_toArray, List.length_cons, List.length_nil, Nat.reduceAdd, Nat.zero_add, List.range, List.range.loop])
      (co_applyP gd_val T rfl rfl (by k_ne) ?_ ?_ ?_; (focus (intro _ K hK; go_simp; (try w_num); exact hK)); (focus (intro _; simp [go_sem, *]; done)); (try walk_nrm))
      with_reducible refine gd_c T (G_running _ _) (fun _ => stepG_region_end) ?_
      with_reducible refine gd_c T (G_running _ _) (fun _ => stepG_seq) ?_
      ((with_reducible refine gd_c T (G_running _ _) (fun _ => stepG_region) ?_); simp only [List.size_toArray, List.length_cons, List.length_nil, Nat.reduceAdd, Nat.zero_add, List.range, List.range.loop])
      (co_applyP gd_val T rfl rfl (by k_ne) ?_ ?_ ?_; (focus (intro _ K hK; go_simp; (try w_num); exact hK)); (focus (intro _; simp [go_sem, *]; done)); (try walk_nrm))
      (co_applyP gd_val T rfl rfl (by k_ne) ?_ ?_ ?_; (focus (intro _ K hK; go_simp; (try w_num); exact hK)); (focus (intro _; simp [go_sem, *]; done)); (try walk_nrm))
      (co_applyP gd_val T rfl rfl (by k_ne) ?_ ?_ ?_; (focus (intro _ K hK; go_simp; (try w_num); exact hK)); (focus (intro _; simp [go_sem, *]; done)); (try walk_nrm))
      refine GD.step rfl (fun w₅ h₅ => ?_)
      obtain ⟨v', hv', hwg⟩ := h₅.down 0 hcv
      obtain rfl : v' = 0 := by omega
      replace hwg : WgAt x.ty x.Wg w₅ 0 0 := by simpa using hwg
      replace hwi : LB x w₅ := ⟨h₅.live hwi.live⟩
      replace hcv : x.CL 0 w₅ := h₅.down 0 hcv
      clear h₅ hv'
      have TS : ∀ (d : Nat) (w : World) (e : Event), e.mute = true → x.DM d w w #[e] := fun d w e he => ⟨rfl, fun e' he' => by rw [Array.mem_singleton] at he'; subst he'; exact .inr (.inr (.inr he))⟩
      rw [stepG_load_atomic (v := 0) rfl rfl (by k_ne) rfl H.f_loadU64 (x_loadU64_n Tryz.link) (x_loadU64_b Tryz.link) (x_loadU64_x Tryz.link) .u64 (x_loadU64_f Tryz.link) rfl hwg.cellSt]
      simp only [goes_go]
      refine ⟨⟨rfl, fun e' he' => by rw [Array.mem_singleton] at he'; subst he'; exact .inl ⟨stA x.Wg, false, rfl, rfl⟩⟩, ?_⟩
      have db0 : deafBehind 1 #[(⟨.cell (stA x.Wg), false, true⟩ : Event)] = 1 := rfl
      rw [db0]
      clear db0 hwg
      walk_nrm
      (co_applyP gd_val T rfl rfl (by k_ne) ?_ ?_ ?_; (focus (intro _ K hK; go_simp; (try w_num); exact hK)); (focus (intro _; simp [go_sem, *]; done)); (try walk_nrm))
      with_reducible refine gd_c T (G_running _ _) (fun _ => stepG_region_end) ?_
      with_reducible refine gd_c T (G_running _ _) (fun _ => stepG_ret') ?_
      (refine gd_leave1 T rfl rfl Tryz.func40 rfl ?_; (try walk_nrm))
      (co_applyP gd_val T rfl rfl (by k_ne) ?_ ?_ ?_; (focus (intro _ K hK; go_simp; (try w_num); exact hK)); (focus (intro _; simp [go_sem, *]; done)); (try walk_nrm))
      (co_applyP gd_val T rfl rfl (by k_ne) ?_ ?_ ?_; (focus (intro _ K hK; go_simp; (try w_num); exact hK)); (focus (intro _; simp [go_sem, *]; done)); (try walk_nrm))
      with_reducible refine gd_c T (G_running _ _) (fun _ => stepG_region_end) ?_
      with_reducible refine gd_c T (G_running _ _) (fun _ => stepG_seq) ?_
      (refine gd_c T rfl (fun _ => stepG_cond (t := true) rfl) ?_; simp only [if_true, if_false, Bool.false_eq_true, ↓reduceIte])
      with_reducible refine gd_c T (G_running _ _) (fun _ => stepG_seq) ?_
      ((with_reducible refine gd_c T (G_running _ _) (fun _ => stepG_region) ?_); simp only [List.size_toArray, List.length_cons, List.length_nil, Nat.reduceAdd, Nat.zero_add, List.range, List.range.loop])
      (refine gd_said T.tr _ (fun w => TS _ w _ rfl) rfl (fun _ => stepG_mark0 .enable (by simp) rfl rfl (by k_ne) rfl H.f_enable (x_enable_n Tryz.link) (x_enable_b Tryz.link) (x_enable_x Tryz.link) (x_enable_f Tryz.link)) ?_; simp only [deafBehind_enable, Nat.sub_self, Nat.reduceSub]; (try walk_nrm))
      with_reducible refine gd_c T (G_running _ _) (fun _ => stepG_region_end) ?_
      ((with_reducible refine gd_c T (G_running _ _) (fun _ => stepG_region) ?_); simp only [List.size_toArray, List.length_cons, List.length_nil, Nat.reduceAdd, Nat.zero_add, List.range, List.range.loop])
      (co_applyP gd_val T rfl rfl (by k_ne) ?_ ?_ ?_; (focus (intro _ K hK; go_simp; (try w_num); exact hK)); (focus (intro _; simp [go_sem, *]; done)); (try walk_nrm))
      (co_applyP gd_val' T rfl rfl (by k_ne) ?_ ?_ ?_; (focus (intro w₁ h₁ K hK; obtain ⟨_, hcc⟩ := lcell0 (h₁.live hwi.live); have hcv := run_convert_to_unsafe (P := Tryz.prog) H.underlying_tWgP H.underlying_tUP H.room_tWg hcc; go_simp; exact hK)); (focus (intro w₁ h₁; have hce := fun es => events_convert_to_unsafe (P := Tryz.prog) H.underlying_tWgP H.underlying_tUP H.room_tWg (lcell0 (h₁.live hwi.live)).choose_spec es; simp [go_sem, hce]; done)); (try walk_nrm))
      refine GD.stop (fun w₆ h₆ => ?_)
      obtain ⟨v', hv', hwg⟩ := h₆.down 0 hcv
      obtain rfl : v' = 0 := by omega
      refine ⟨rfl, rfl, by simpa using hwg, _, stepG_markAt .acquire (by simp) rfl rfl (by k_ne) rfl H.f_acquire (x_acquire_n Tryz.link) (x_acquire_b Tryz.link) (x_acquire_x Tryz.link) (x_acquire_f Tryz.link) (by simp [Act.eval, stA]), 100, fun w => ?_⟩
      clear T TS hwi hcv h₆ hwg
      have T := tN
      walk_nrm
      with_reducible refine gd_c T (G_running _ _) (fun _ => stepG_region_end) ?_
      with_reducible refine gd_c T (G_running _ _) (fun _ => stepG_seq) ?_
      with_reducible refine gd_c T (G_running _ _) (fun _ => stepG_seq) ?_
      ((with_reducible refine gd_c T (G_running _ _) (fun _ => stepG_region) ?_); simp only [List.size_toArray, List.length_cons, List.length_nil, Nat.reduceAdd, Nat.zero_add, List.range, List.range.loop])
      (co_applyP gd_val T rfl rfl (by k_ne) ?_ ?_ ?_; (focus (intro _ K hK; go_simp; (try w_num); exact hK)); (focus (intro _; simp [go_sem, *]; done)); (try walk_nrm))
      with_reducible refine gd_c T (G_running _ _) (fun _ => stepG_region_end) ?_
      (refine gd_c T rfl (fun _ => stepG_cond (t := false) rfl) ?_; simp only [if_true, if_false, Bool.false_eq_true, ↓reduceIte])
      with_reducible refine gd_c T (G_running _ _) (fun _ => stepG_skip) ?_
      with_reducible refine gd_c T (G_running _ _) (fun _ => stepG_ret') ?_
      (refine gd_leave0 T rfl rfl Tryz.func26 rfl ?_; (try walk_nrm))
      exact GD.stop (fun _ _ => ⟨rfl, rfl⟩)
    · obtain rfl | rfl : v' = 0 ∨ v' = 1 := by omega
      · have e1 : ((0 : Nat) : Int) * KK = 0 := by decide
        simp only [e1] at hw
        have hcv' : x.CL 1 w₂ := ⟨0, by omega, by simpa only [e1] using hw⟩
        refine ⟨_, (stepG_cas_miss (v := 0) (old := 8589934592) (n := 8589934593) rfl rfl (by k_ne) rfl H.f_casU64 (x_casU64_n Tryz.link) (x_casU64_b Tryz.link) (x_casU64_x Tryz.link) .u64 (x_casU64_f Tryz.link) rfl rfl rfl hw.cellSt (hw.thaw 0) (by decide)).trans rfl, M + 100, ?_⟩
        replace hwi := h₂.wi hwi
        clear h₂ hw hcv e0 e1
        walk_nrm
        (co_applyP gd_val T rfl rfl (by k_ne) ?_ ?_ ?_; (focus (intro _ K hK; go_simp; (try w_num); exact hK)); (focus (intro _; simp [go_sem, *]; done)); (try walk_nrm))
        with_reducible refine gd_c T (G_running _ _) (fun _ => stepG_region_end) ?_
        with_reducible refine gd_c T (G_running _ _) (fun _ => stepG_ret') ?_
        (refine gd_leave1 T rfl rfl Tryz.func46 rfl ?_; (try walk_nrm))
        with_reducible refine gd_c T (G_running _ _) (fun _ => stepG_region_end) ?_
        (refine gd_c T rfl (fun _ => stepG_cond (t := false) rfl) ?_; simp only [if_true, if_false, Bool.false_eq_true, ↓reduceIte])
        with_reducible refine gd_c T (G_running _ _) (fun _ => stepG_skip) ?_
        with_reducible refine gd_c T (G_running _ _) (fun _ => stepG_inBlock) ?_
        with_reducible refine gd_c T (G_running _ _) (fun _ => stepG_inLoop) ?_
        exact (hM 1 (by omega) _ _ rfl rfl hwi hcv').mono (by omega)
      · have e1 : ((1 : Nat) : Int) * KK = 4294967296 := by decide
        simp only [e1] at hw
        have hcv' : x.CL 1 w₂ := ⟨1, by omega, by simpa only [e1] using hw⟩
        refine ⟨_, (stepG_cas_miss (v := 4294967296) (old := 8589934592) (n := 8589934593) rfl rfl (by k_ne) rfl H.f_casU64 (x_casU64_n Tryz.link) (x_casU64_b Tryz.link) (x_casU64_x Tryz.link) .u64 (x_casU64_f Tryz.link) rfl rfl rfl hw.cellSt (hw.thaw 0) (by decide)).trans rfl, M + 100, ?_⟩
        replace hwi := h₂.wi hwi
        clear h₂ hw hcv e0 e1
        walk_nrm
        (co_applyP gd_val T rfl rfl (by k_ne) ?_ ?_ ?_; (focus (intro _ K hK; go_simp; (try w_num); exact hK)); (focus (intro _; simp [go_sem, *]; done)); (try walk_nrm))
        with_reducible refine gd_c T (G_running _ _) (fun _ => stepG_region_end) ?_
        with_reducible refine gd_c T (G_running _ _) (fun _ => stepG_ret') ?_
        (refine gd_leave1 T rfl rfl Tryz.func46 rfl ?_; (try walk_nrm))
        with_reducible refine gd_c T (G_running _ _) (fun _ => stepG_region_end) ?_
        (refine gd_c T rfl (fun _ => stepG_cond (t := false) rfl) ?_; simp only [if_true, if_false, Bool.false_eq_true, ↓reduceIte])
        with_reducible refine gd_c T (G_running _ _) (fun _ => stepG_skip) ?_
        with_reducible refine gd_c T (G_running _ _) (fun _ => stepG_inBlock) ?_
        with_reducible refine gd_c T (G_running _ _) (fun _ => stepG_inLoop) ?_
        exact (hM 1 (by omega) _ _ rfl rfl hwi hcv').mono (by omega)
  · have e0 : ((3 : Nat) : Int) * KK = 12884901888 := by decide
    simp only [e0]
    (co_applyP gd_val T rfl rfl (by k_ne) ?_ ?_ ?_; (focus (intro _ K hK; go_simp; (try w_num); exact hK)); (focus (intro _; simp [go_sem, *]; done)); (try walk_nrm))
    with_reducible refine gd_c T (G_running _ _) (fun _ => stepG_region_end) ?_
    with_reducible refine gd_c T (G_running _ _) (fun _ => stepG_ret') ?_
    (refine gd_leave1 T rfl rfl Tryz.func40 rfl ?_; (try walk_nrm))
    (co_applyP gd_val T rfl rfl (by k_ne) ?_ ?_ ?_; (focus (intro _ K hK; go_simp; (try w_num); exact hK)); (focus (intro _; simp [go_sem, *]; done)); (try walk_nrm))
    with_reducible refine gd_c T (G_running _ _) (fun _ => stepG_region_end) ?_
    with_reducible refine gd_c T (G_running _ _) (fun _ => stepG_seq) ?_
    ((with_reducible refine gd_c T (G_running _ _) (fun _ => stepG_region) ?_); simp only [List.size_toArray, List.length_cons, List.length_nil, Nat.reduceAdd, Nat.zero_add, List.range, List.range.loop])
    (co_applyP gd_val T rfl rfl (by k_ne) ?_ ?_ ?_; (focus (intro _ K hK; go_simp; (try w_num); exact hK)); (focus (intro _; simp [go_sem, *]; done)); (try walk_nrm))
    (co_applyP gd_val T rfl rfl (by k_ne) ?_ ?_ ?_; (focus (intro _ K hK; go_simp; (try w_num); exact hK)); (focus (intro _; simp [go_sem, *]; done)); (try walk_nrm))
    (co_applyP gd_val T rfl rfl (by k_ne) ?_ ?_ ?_; (focus (intro _ K hK; go_simp; (try w_num); exact hK)); (focus (intro _; simp [go_sem, *]; done)); (try walk_nrm))
    (co_applyP gd_val T rfl rfl (by k_ne) ?_ ?_ ?_; (focus (intro _ K hK; go_simp; (try w_num); exact hK)); (focus (intro _; simp [go_sem, *]; done)); (try walk_nrm))
    with_reducible refine gd_c T (G_running _ _) (fun _ => stepG_region_end) ?_
    with_reducible refine gd_c T (G_running _ _) (fun _ => stepG_seq) ?_
    ((with_reducible refine gd_c T (G_running _ _) (fun _ => stepG_region) ?_); simp only [List.size_toArray, List.length_cons, List.length_nil, Nat.reduceAdd, Nat.zero_add, List.range, List.range.loop])
    (co_applyP gd_val T rfl rfl (by k_ne) ?_ ?_ ?_; (focus (intro _ K hK; go_simp; (try w_num); exact hK)); (focus (intro _; simp [go_sem, *]; done)); (try walk_nrm))
    (co_applyP gd_val T rfl rfl (by k_ne) ?_ ?_ ?_; (focus (intro _ K hK; go_simp; (try w_num); exact hK)); (focus (intro _; simp [go_sem, *]; done)); (try walk_nrm))
    (co_applyP gd_val T rfl rfl (by k_ne) ?_ ?_ ?_; (focus (intro _ K hK; go_simp; (try w_num); exact hK)); (focus (intro _; simp [go_sem, *]; done)); (try walk_nrm))
    (co_applyP gd_val T rfl rfl (by k_ne) ?_ ?_ ?_; (focus (intro _ K hK; go_simp; (try w_num); exact hK)); (focus (intro _; simp [go_sem, *]; done)); (try walk_nrm))
    with_reducible refine gd_c T (G_running _ _) (fun _ => stepG_region_end) ?_
    with_reducible refine gd_c T (G_running _ _) (fun _ => stepG_seq) ?_
    with_reducible refine gd_c T (G_running _ _) (fun _ => stepG_seq) ?_
    ((with_reducible refine gd_c T (G_running _ _) (fun _ => stepG_region) ?_); simp only [List.size_toArray, List.length_cons, List.length_nil, Nat.reduceAdd, Nat.zero_add, List.range, List.range.loop])
    (co_applyP gd_val T rfl rfl (by k_ne) ?_ ?_ ?_; (focus (intro _ K hK; go_simp; (try w_num); exact hK)); (focus (intro _; simp [go_sem, *]; done)); (try walk_nrm))
    (co_applyP gd_val T rfl rfl (by k_ne) ?_ ?_ ?_; (focus (intro _ K hK; go_simp; (try w_num); exact hK)); (focus (intro _; simp [go_sem, *]; done)); (try walk_nrm))
    with_reducible refine gd_c T (G_running _ _) (fun _ => stepG_region_end) ?_
    (refine gd_c T rfl (fun _ => stepG_cond (t := false) rfl) ?_; simp only [if_true, if_false, Bool.false_eq_true, ↓reduceIte])
    with_reducible refine gd_c T (G_running _ _) (fun _ => stepG_skip) ?_
    with_reducible refine gd_c T (G_running _ _) (fun _ => stepG_seq) ?_
    ((with_reducible refine gd_c T (G_running _ _) (fun _ => stepG_region) ?_); simp only [List.size_toArray, List.length_cons, List.length_nil, Nat.reduceAdd, Nat.zero_add, List.range, List.range.loop])
    (co_applyP gd_val T rfl rfl (by k_ne) ?_ ?_ ?_; (focus (intro _ K hK; go_simp; (try w_num); exact hK)); (focus (intro _; simp [go_sem, *]; done)); (try walk_nrm))
    (co_applyP gd_val T rfl rfl (by k_ne) ?_ ?_ ?_; (focus (intro _ K hK; go_simp; (try w_num); exact hK)); (focus (intro _; simp [go_sem, *]; done)); (try walk_nrm))
    (co_applyP gd_val T rfl rfl (by k_ne) ?_ ?_ ?_; (focus (intro _ K hK; go_simp; (try w_num); exact hK)); (focus (intro _; simp [go_sem, *]; done)); (try walk_nrm))
    (co_applyP gd_val T rfl rfl (by k_ne) ?_ ?_ ?_; (focus (intro _ K hK; go_simp; (try w_num); exact hK)); (focus (intro _; simp [go_sem, *]; done)); (try walk_nrm))
    (co_applyP gd_val T rfl rfl (by k_ne) ?_ ?_ ?_; (focus (intro _ K hK; go_simp; (try w_num); exact hK)); (focus (intro _; simp [go_sem, *]; done)); (try walk_nrm))
    (co_applyP gd_val T rfl rfl (by k_ne) ?_ ?_ ?_; (focus (intro _ K hK; go_simp; (try w_num); exact hK)); (focus (intro _; simp [go_sem, *]; done)); (try walk_nrm))
    (refine gd_call T rfl rfl (by k_ne) rfl Tryz.func46 cn46 rfl ?_; walk_nrmf Tryz.f46)
    with_reducible refine gd_c T (G_running _ _) (fun _ => stepG_seq) ?_
    ((with_reducible refine gd_c T (G_running _ _) (fun _ => stepG_region) ?_); simp only [List.size_toArray, List.length_cons, List.length_nil, Nat.reduceAdd, Nat.zero_add, List.range, List.range.loop])
    (co_applyP gd_val T rfl rfl (by k_ne) ?_ ?_ ?_; (focus (intro _ K hK; go_simp; (try w_num); exact hK)); (focus (intro _; simp [go_sem, *]; done)); (try walk_nrm))
    with_reducible refine gd_c T (G_running _ _) (fun _ => stepG_region_end) ?_
    with_reducible refine gd_c T (G_running _ _) (fun _ => stepG_seq) ?_
    ((with_reducible refine gd_c T (G_running _ _) (fun _ => stepG_region) ?_); simp only [List.size_toArray, List.length_cons, List.length_nil, Nat.reduceAdd, Nat.zero_add, List.range, List.range.loop])
    (co_applyP gd_val T rfl rfl (by k_ne) ?_ ?_ ?_; (focus (intro _ K hK; go_simp; (try w_num); exact hK)); (focus (intro _; simp [go_sem, *]; done)); (try walk_nrm))
    (co_applyP gd_val T rfl rfl (by k_ne) ?_ ?_ ?_; (focus (intro _ K hK; go_simp; (try w_num); exact hK)); (focus (intro _; simp [go_sem, *]; done)); (try walk_nrm))
    (co_applyP gd_val T rfl rfl (by k_ne) ?_ ?_ ?_; (focus (intro _ K hK; go_simp; (try w_num); exact hK)); (focus (intro _; simp [go_sem, *]; done)); (try walk_nrm))
    (co_applyP gd_val T rfl rfl (by k_ne) ?_ ?_ ?_; (focus (intro _ K hK; go_simp; (try w_num); exact hK)); (focus (intro _; simp [go_sem, *]; done)); (try walk_nrm))
    (co_applyP gd_val T rfl rfl (by k_ne) ?_ ?_ ?_; (focus (intro _ K hK; go_simp; (try w_num); exact hK)); (focus (intro _; simp [go_sem, *]; done)); (try walk_nrm))
    refine GD.stop (fun w₂ h₂ => atW_cas (v := 2) (by omega) ⟨rfl, h₂.down 3 hcv, fun hw => ?_, fun v' hv' hw => ?_⟩)
    · have e1 : (((2 + 1 : Nat) : Int)) * KK + 1 = 12884901889 := by decide
      have e2 : (((2 + 1 : Nat) : Int)) * KK = 12884901888 := by decide
      simp only [e2] at hw
      simp only [e1]
      refine ⟨_, (stepG_cas_hit (v := 12884901888) (n := 12884901889) rfl rfl (by k_ne) rfl H.f_casU64 (x_casU64_n Tryz.link) (x_casU64_b Tryz.link) (x_casU64_x Tryz.link) .u64 (x_casU64_f Tryz.link) rfl rfl rfl hw.cellSt (hw.thaw 0)).trans rfl, 200, ?_⟩
      clear T TS TR hwi hcv h₂ hM e0 e1 e2
      have hwi : LB x (w₂.setCell (stA x.Wg) (.int .u64 12884901889)) := ⟨⟨_, _, hw.setSt 12884901889⟩⟩
      generalize w₂.setCell (stA x.Wg) (.int .u64 12884901889) = w at hwi ⊢
      clear hw
      have T := tM0 x
      have TWR : ∀ (d : Nat) (w : World), x.DM d w w #[Go.ConcR.mk (.write ⟨x.Wg, 1, none⟩)] := fun d w => ⟨rfl, fun e' he' => by rw [Array.mem_singleton] at he'; subst he'; exact .inr (.inl ⟨_, rfl, .inr rfl⟩)⟩
      walk_nrm
      (co_applyP gd_val T rfl rfl (by k_ne) ?_ ?_ ?_; (focus (intro _ K hK; go_simp; (try w_num); exact hK)); (focus (intro _; simp [go_sem, *]; done)); (try walk_nrm))
      with_reducible refine gd_c T (G_running _ _) (fun _ => stepG_region_end) ?_
      with_reducible refine gd_c T (G_running _ _) (fun _ => stepG_ret') ?_
      (refine gd_leave1 T rfl rfl Tryz.func46 rfl ?_; (try walk_nrm))
      with_reducible refine gd_c T (G_running _ _) (fun _ => stepG_region_end) ?_
      (refine gd_c T rfl (fun _ => stepG_cond (t := true) rfl) ?_; simp only [if_true, if_false, Bool.false_eq_true, ↓reduceIte])
      with_reducible refine gd_c T (G_running _ _) (fun _ => stepG_seq) ?_
      with_reducible refine gd_c T (G_running _ _) (fun _ => stepG_seq) ?_
      ((with_reducible refine gd_c T (G_running _ _) (fun _ => stepG_region) ?_); simp only [List.size_toArray, List.length_cons, List.length_nil, Nat.reduceAdd, Nat.zero_add, List.range, List.range.loop])
      (co_applyP gd_val T rfl rfl (by k_ne) ?_ ?_ ?_; (focus (intro _ K hK; go_simp; (try w_num); exact hK)); (focus (intro _; simp [go_sem, *]; done)); (try walk_nrm))
      (co_applyP gd_val T rfl rfl (by k_ne) ?_ ?_ ?_; (focus (intro _ K hK; go_simp; (try w_num); exact hK)); (focus (intro _; simp [go_sem, *]; done)); (try walk_nrm))
      (co_applyP gd_val T rfl rfl (by k_ne) ?_ ?_ ?_; (focus (intro _ K hK; go_simp; (try w_num); exact hK)); (focus (intro _; simp [go_sem, *]; done)); (try walk_nrm))
      (co_applyP gd_val T rfl rfl (by k_ne) ?_ ?_ ?_; (focus (intro _ K hK; go_simp; (try w_num); exact hK)); (focus (intro _; simp [go_sem, *]; done)); (try walk_nrm))
      with_reducible refine gd_c T (G_running _ _) (fun _ => stepG_region_end) ?_
      (refine gd_c T rfl (fun _ => stepG_cond (t := true) rfl) ?_; simp only [if_true, if_false, Bool.false_eq_true, ↓reduceIte])
      ((with_reducible refine gd_c T (G_running _ _) (fun _ => stepG_region) ?_); simp only [List.size_toArray, List.length_cons, List.length_nil, Nat.reduceAdd, Nat.zero_add, List.range, List.range.loop])
      (co_applyP gd_val T rfl rfl (by k_ne) ?_ ?_ ?_; (focus (intro _ K hK; go_simp; (try w_num); exact hK)); (focus (intro _; simp [go_sem, *]; done)); (try walk_nrm))
      (co_applyP gd_val T rfl rfl (by k_ne) ?_ ?_ ?_; (focus (intro _ K hK; go_simp; (try w_num); exact hK)); (focus (intro _; simp [go_sem, *]; done)); (try walk_nrm))
      (co_applyP gd_val T rfl rfl (by k_ne) ?_ ?_ ?_; (focus (intro _ K hK; go_simp; (try w_num); exact hK)); (focus (intro _; simp [go_sem, *]; done)); (try walk_nrm))
      (co_applyP gd_val' T rfl rfl (by k_ne) ?_ ?_ ?_; (focus (intro w₁ h₁ K hK; obtain ⟨_, hcc⟩ := lcell1 (h₁.live hwi.live); have hcv := run_convert_to_unsafe (P := Tryz.prog) H.underlying_tPU32 H.underlying_tUP H.room_tU32 hcc; go_simp; exact hK)); (focus (intro w₁ h₁; have hce := fun es => events_convert_to_unsafe (P := Tryz.prog) H.underlying_tPU32 H.underlying_tUP H.room_tU32 (lcell1 (h₁.live hwi.live)).choose_spec es; simp [go_sem, hce]; done)); (try walk_nrm))
      (refine gd_ev T.tr (Go.ConcR.mk (.write ⟨x.Wg, 1, none⟩)) rfl (fun w => TWR _ w) rfl (fun _ => stepG_markAt .write (by simp) rfl rfl (by k_ne) rfl H.f_raceWrite (x_raceWrite_n Tryz.link) (x_raceWrite_b Tryz.link) (x_raceWrite_x Tryz.link) (x_raceWrite_f Tryz.link) (ad := ⟨x.Wg, 1, none⟩) (by simp [Act.eval] <;> rfl)) ?_; (try walk_nrm))
      with_reducible refine gd_c T (G_running _ _) (fun _ => stepG_region_end) ?_
      with_reducible refine gd_c T (G_running _ _) (fun _ => stepG_seq) ?_
      ((with_reducible refine gd_c T (G_running _ _) (fun _ => stepG_region) ?_); simp only [List.size_toArray, List.length_cons, List.length_nil, Nat.reduceAdd, Nat.zero_add, List.range, List.range.loop])
      (co_applyP gd_val T rfl rfl (by k_ne) ?_ ?_ ?_; (focus (intro _ K hK; go_simp; (try w_num); exact hK)); (focus (intro _; simp [go_sem, *]; done)); (try walk_nrm))
      with_reducible refine gd_c T (G_running _ _) (fun _ => stepG_region_end) ?_
      with_reducible refine gd_c T (G_running _ _) (fun _ => stepG_seq) ?_
      with_reducible refine gd_c T (G_running _ _) (fun _ => stepG_seq) ?_
      ((with_reducible refine gd_c T (G_running _ _) (fun _ => stepG_region) ?_); simp only [List.size_toArray, List.length_cons, List.length_nil, Nat.reduceAdd, Nat.zero_add, List.range, List.range.loop])
      (co_applyP gd_val T rfl rfl (by k_ne) ?_ ?_ ?_; (focus (intro _ K hK; go_simp; (try w_num); exact hK)); (focus (intro _; simp [go_sem, *]; done)); (try walk_nrm))
      (co_applyP gd_val T rfl rfl (by k_ne) ?_ ?_ ?_; (focus (intro _ K hK; go_simp; (try w_num); exact hK)); (focus (intro _; simp [go_sem, *]; done)); (try walk_nrm))
      (co_applyP gd_val T rfl rfl (by k_ne) ?_ ?_ ?_; (focus (intro _ K hK; go_simp; (try w_num); exact hK)); (focus (intro _; simp [go_sem, *]; done)); (try walk_nrm))
      (co_applyP gd_val T rfl rfl (by k_ne) ?_ ?_ ?_; (focus (intro _ K hK; go_simp; (try w_num); exact hK)); (focus (intro _; simp [go_sem, *]; done)); (try walk_nrm))
      (refine gd_c T rfl (fun _ => stepG_unwanted rfl rfl) ?_; (try walk_nrm))
      (co_applyP gd_val T rfl rfl (by k_ne) ?_ ?_ ?_; (focus (intro _ K hK; go_simp; (try w_num); exact hK)); (focus (intro _; simp [go_sem, *]; done)); (try walk_nrm))
      with_reducible refine gd_c T (G_running _ _) (fun _ => stepG_region_end) ?_
      (refine gd_c T rfl (fun _ => stepG_cond (t := false) rfl) ?_; simp only [if_true, if_false, Bool.false_eq_true, ↓reduceIte])
      with_reducible refine gd_c T (G_running _ _) (fun _ => stepG_skip) ?_
      with_reducible refine gd_c T (G_running _ _) (fun _ => stepG_seq) ?_
      ((with_reducible refine gd_c T (G_running _ _) (fun _ => stepG_region) ?_); simp only [List.size_toArray, List.length_cons, List.length_nil, Nat.reduceAdd, Nat.zero_add, List.range, List.range.loop])
      (co_applyP gd_val T rfl rfl (by k_ne) ?_ ?_ ?_; (focus (intro _ K hK; go_simp; (try w_num); exact hK)); (focus (intro _; simp [go_sem, *]; done)); (try walk_nrm))
      (co_applyP gd_val T rfl rfl (by k_ne) ?_ ?_ ?_; (focus (intro _ K hK; go_simp; (try w_num); exact hK)); (focus (intro _; simp [go_sem, *]; done)); (try walk_nrm))
      (co_applyP gd_val T rfl rfl (by k_ne) ?_ ?_ ?_; (focus (intro _ K hK; go_simp; (try w_num); exact hK)); (focus (intro _; simp [go_sem, *]; done)); (try walk_nrm))
      (co_applyP gd_val T rfl rfl (by k_ne) ?_ ?_ ?_; (focus (intro _ K hK; go_simp; (try w_num); exact hK)); (focus (intro _; simp [go_sem, *]; done)); (try walk_nrm))
      refine GD.stop (fun w₃ h₃ => ⟨rfl, rfl, fun st hst => stepG_semacquire_wait rfl rfl rfl H.f_semacquire (x_semacquire_n Tryz.link) (x_semacquire_b Tryz.link) (x_semacquire_x Tryz.link) (x_semacquire_f Tryz.link) (ad := smA x.Wg) (by simp [Act.eval, smA]) hst.cellSm, fun hw3 => ⟨_, (stepG_semacquire (ad := smA x.Wg) (n := 1) rfl rfl (by k_ne) rfl H.f_semacquire (x_semacquire_n Tryz.link) (x_semacquire_b Tryz.link) (x_semacquire_x Tryz.link) (x_semacquire_f Tryz.link) (by simp [Act.eval, smA]) hw3.cellSm (by decide) (hw3.thaw 1)).trans rfl, 200, ?_⟩⟩)
      clear T hwi h₃ TWR
      have hw4 := hw3.setSm 0
      have hcv : x.CL 0 (w₃.setCell (smA x.Wg) (.int .u32 0)) := ⟨0, Nat.le_refl _, by simpa using hw4⟩
      have hwi : LB x (w₃.setCell (smA x.Wg) (.int .u32 0)) := ⟨⟨_, _, hw4⟩⟩
      clear hw3 hw4
      generalize w₃.setCell (smA x.Wg) (.int .u32 0) = w at hwi hcv ⊢
      have T := tM x
      walk_nrm
      with_reducible refine gd_c T (G_running _ _) (fun _ => stepG_region_end) ?_
      with_reducible refine gd_c T (G_running _ _) (fun _ => stepG_seq) ?_
      ((with_reducible refine gd_c T (G_running _ _) (fun _ => stepG_region) ?_); simp only [List.size_toArray, List.length_cons, List.length_nil, Nat.reduceAdd, Nat.zero_add, List.range, List.range.loop])
      (co_applyP gd_val T rfl rfl (by k_ne) ?_ ?_ ?_; (focus (intro _ K hK; go_simp; (try w_num); exact hK)); (focus (intro _; simp [go_sem, *]; done)); (try walk_nrm))
      (co_applyP gd_val T rfl rfl (by k_ne) ?_ ?_ ?_; (focus (intro _ K hK; go_simp; (try w_num); exact hK)); (focus (intro _; simp [go_sem, *]; done)); (try walk_nrm))
      (co_applyP gd_val T rfl rfl (by k_ne) ?_ ?_ ?_; (focus (intro _ K hK; go_simp; (try w_num); exact hK)); (focus (intro _; simp [go_sem, *]; done)); (try walk_nrm))
      (refine gd_call T rfl rfl (by k_ne) rfl Tryz.func40 cn40 rfl ?_; walk_nrmf Tryz.f40)
      with_reducible refine gd_c T (G_running _ _) (fun _ => stepG_seq) ?_
      ((with_reducible refine gd_c T (G_running _ _) (fun _ => stepG_region) ?_); simp only [List.size_toArray, List.length_cons, List.length_nil, Nat.reduceAdd, Nat.zero_add, List.range, List.range.loop])
      (co_applyP gd_val T rfl rfl (by k_ne) ?_ ?_ ?_; (focus (intro _ K hK; go_simp; (try w_num); exact hK)); (focus (intro _; simp [go_sem, *]; done)); (try walk_nrm))
      with_reducible refine gd_c T (G_running _ _) (fun _ => stepG_region_end) ?_
      with_reducible refine gd_c T (G_running _ _) (fun _ => stepG_seq) ?_
      ((with_reducible refine gd_c T (G_running _ _) (fun _ => stepG_region) ?_); simp only [List.size_toArray, List.length_cons, List.length_nil, Nat.reduceAdd, Nat.zero_add, List.range, List.range.loop])
      (co_applyP gd_val T rfl rfl (by k_ne) ?_ ?_ ?_; (focus (intro _ K hK; go_simp; (try w_num); exact hK)); (focus (intro _; simp [go_sem, *]; done)); (try walk_nrm))
      (co_applyP gd_val T rfl rfl (by k_ne) ?_ ?_ ?_; (focus (intro _ K hK; go_simp; (try w_num); exact hK)); (focus (intro _; simp [go_sem, *]; done)); (try walk_nrm))
      (co_applyP gd_val T rfl rfl (by k_ne) ?_ ?_ ?_; (focus (intro _ K hK; go_simp; (try w_num); exact hK)); (focus (intro _; simp [go_sem, *]; done)); (try walk_nrm))
      refine GD.step rfl (fun w₅ h₅ => ?_)
      obtain ⟨v', hv', hwg⟩ := h₅.down 0 hcv
      obtain rfl : v' = 0 := by omega
      replace hwg : WgAt x.ty x.Wg w₅ 0 0 := by simpa using hwg
      replace hwi : LB x w₅ := ⟨h₅.live hwi.live⟩
      replace hcv : x.CL 0 w₅ := h₅.down 0 hcv
      clear h₅ hv'
      have TS : ∀ (d : Nat) (w : World) (e : Event), e.mute = true → x.DM d w w #[e] := fun d w e he => ⟨rfl, fun e' he' => by rw [Array.mem_singleton] at he'; subst he'; exact .inr (.inr (.inr he))⟩
      rw [stepG_load_atomic (v := 0) rfl rfl (by k_ne) rfl H.f_loadU64 (x_loadU64_n Tryz.link) (x_loadU64_b Tryz.link) (x_loadU64_x Tryz.link) .u64 (x_loadU64_f Tryz.link) rfl hwg.cellSt]
      simp only [goes_go]
      refine ⟨⟨rfl, fun e' he' => by rw [Array.mem_singleton] at he'; subst he'; exact .inl ⟨stA x.Wg, false, rfl, rfl⟩⟩, ?_⟩
      have db0 : deafBehind 1 #[(⟨.cell (stA x.Wg), false, true⟩ : Event)] = 1 := rfl
      rw [db0]
      clear db0 hwg
      walk_nrm
      (co_applyP gd_val T rfl rfl (by k_ne) ?_ ?_ ?_; (focus (intro _ K hK; go_simp; (try w_num); exact hK)); (focus (intro _; simp [go_sem, *]; done)); (try walk_nrm))
      with_reducible refine gd_c T (G_running _ _) (fun _ => stepG_region_end) ?_
      with_reducible refine gd_c T (G_running _ _) (fun _ => stepG_ret') ?_
      (refine gd_leave1 T rfl rfl Tryz.func40 rfl ?_; (try walk_nrm))
      (co_applyP gd_val T rfl rfl (by k_ne) ?_ ?_ ?_; (focus (intro _ K hK; go_simp; (try w_num); exact hK)); (focus (intro _; simp [go_sem, *]; done)); (try walk_nrm))
      (co_applyP gd_val T rfl rfl (by k_ne) ?_ ?_ ?_; (focus (intro _ K hK; go_simp; (try w_num); exact hK)); (focus (intro _; simp [go_sem, *]; done)); (try walk_nrm))
      with_reducible refine gd_c T (G_running _ _) (fun _ => stepG_region_end) ?_
      with_reducible refine gd_c T (G_running _ _) (fun _ => stepG_seq) ?_
      (refine gd_c T rfl (fun _ => stepG_cond (t := true) rfl) ?_; simp only [if_true, if_false, Bool.false_eq_true, ↓reduceIte])
      with_reducible refine gd_c T (G_running _ _) (fun _ => stepG_seq) ?_
      ((with_reducible refine gd_c T (G_running _ _) (fun _ => stepG_region) ?_); simp only [List.size_toArray, List.length_cons, List.length_nil, Nat.reduceAdd, Nat.zero_add, List.range, List.range.loop])
      (refine gd_said T.tr _ (fun w => TS _ w _ rfl) rfl (fun _ => stepG_mark0 .enable (by simp) rfl rfl (by k_ne) rfl H.f_enable (x_enable_n Tryz.link) (x_enable_b Tryz.link) (x_enable_x Tryz.link) (x_enable_f Tryz.link)) ?_; simp only [deafBehind_enable, Nat.sub_self, Nat.reduceSub]; (try walk_nrm))
      with_reducible refine gd_c T (G_running _ _) (fun _ => stepG_region_end) ?_
      ((with_reducible refine gd_c T (G_running _ _) (fun _ => stepG_region) ?_); simp only [List.size_toArray, List.length_cons, List.length_nil, Nat.reduceAdd, Nat.zero_add, List.range, List.range.loop])
      (co_applyP gd_val T rfl rfl (by k_ne) ?_ ?_ ?_; (focus (intro _ K hK; go_simp; (try w_num); exact hK)); (focus (intro _; simp [go_sem, *]; done)); (try walk_nrm))
      (co_applyP gd_val' T rfl rfl (by k_ne) ?_ ?_ ?_; (focus (intro w₁ h₁ K hK; obtain ⟨_, hcc⟩ := lcell0 (h₁.live hwi.live); have hcv := run_convert_to_unsafe (P := Tryz.prog) H.underlying_tWgP H.underlying_tUP H.room_tWg hcc; go_simp; exact hK)); (focus (intro w₁ h₁; have hce := fun es => events_convert_to_unsafe (P := Tryz.prog) H.underlying_tWgP H.underlying_tUP H.room_tWg (lcell0 (h₁.live hwi.live)).choose_spec es; simp [go_sem, hce]; done)); (try walk_nrm))
      refine GD.stop (fun w₆ h₆ => ?_)
      obtain ⟨v', hv', hwg⟩ := h₆.down 0 hcv
      obtain rfl : v' = 0 := by omega
      refine ⟨rfl, rfl, by simpa using hwg, _, stepG_markAt .acquire (by simp) rfl rfl (by k_ne) rfl H.f_acquire (x_acquire_n Tryz.link) (x_acquire_b Tryz.link) (x_acquire_x Tryz.link) (x_acquire_f Tryz.link) (by simp [Act.eval, stA]), 100, fun w => ?_⟩
      clear T TS hwi hcv h₆ hwg
      have T := tN
      walk_nrm
      with_reducible refine gd_c T (G_running _ _) (fun _ => stepG_region_end) ?_
      with_reducible refine gd_c T (G_running _ _) (fun _ => stepG_seq) ?_
      with_reducible refine gd_c T (G_running _ _) (fun _ => stepG_seq) ?_
      ((with_reducible refine gd_c T (G_running _ _) (fun _ => stepG_region) ?_); simp only [List.size_toArray, List.length_cons, List.length_nil, Nat.reduceAdd, Nat.zero_add, List.range, List.range.loop])
      (co_applyP gd_val T rfl rfl (by k_ne) ?_ ?_ ?_; (focus (intro _ K hK; go_simp; (try w_num); exact hK)); (focus (intro _; simp [go_sem, *]; done)); (try walk_nrm))
      with_reducible refine gd_c T (G_running _ _) (fun _ => stepG_region_end) ?_
      (refine gd_c T rfl (fun _ => stepG_cond (t := false) rfl) ?_; simp only [if_true, if_false, Bool.false_eq_true, ↓reduceIte])
      with_reducible refine gd_c T (G_running _ _) (fun _ => stepG_skip) ?_
      with_reducible refine gd_c T (G_running _ _) (fun _ => stepG_ret') ?_
      (refine gd_leave0 T rfl rfl Tryz.func26 rfl ?_; (try walk_nrm))
      exact GD.stop (fun _ _ => ⟨rfl, rfl⟩)
    · obtain rfl | rfl | rfl : v' = 0 ∨ v' = 1 ∨ v' = 2 := by omega
      · have e1 : ((0 : Nat) : Int) * KK = 0 := by decide
        simp only [e1] at hw
        have hcv' : x.CL 2 w₂ := ⟨0, by omega, by simpa only [e1] using hw⟩
        refine ⟨_, (stepG_cas_miss (v := 0) (old := 12884901888) (n := 12884901889) rfl rfl (by k_ne) rfl H.f_casU64 (x_casU64_n Tryz.link) (x_casU64_b Tryz.link) (x_casU64_x Tryz.link) .u64 (x_casU64_f Tryz.link) rfl rfl rfl hw.cellSt (hw.thaw 0) (by decide)).trans rfl, M + 100, ?_⟩
        replace hwi := h₂.wi hwi
        clear h₂ hw hcv e0 e1
        walk_nrm
        (co_applyP gd_val T rfl rfl (by k_ne) ?_ ?_ ?_; (focus (intro _ K hK; go_simp; (try w_num); exact hK)); (focus (intro _; simp [go_sem, *]; done)); (try walk_nrm))
        with_reducible refine gd_c T (G_running _ _) (fun _ => stepG_region_end) ?_
        with_reducible refine gd_c T (G_running _ _) (fun _ => stepG_ret') ?_
        (refine gd_leave1 T rfl rfl Tryz.func46 rfl ?_; (try walk_nrm))
        with_reducible refine gd_c T (G_running _ _) (fun _ => stepG_region_end) ?_
        (refine gd_c T rfl (fun _ => stepG_cond (t := false) rfl) ?_; simp only [if_true, if_false, Bool.false_eq_true, ↓reduceIte])
        with_reducible refine gd_c T (G_running _ _) (fun _ => stepG_skip) ?_
        with_reducible refine gd_c T (G_running _ _) (fun _ => stepG_inBlock) ?_
        with_reducible refine gd_c T (G_running _ _) (fun _ => stepG_inLoop) ?_
        exact (hM 2 (by omega) _ _ rfl rfl hwi hcv').mono (by omega)
      · have e1 : ((1 : Nat) : Int) * KK = 4294967296 := by decide
        simp only [e1] at hw
        have hcv' : x.CL 2 w₂ := ⟨1, by omega, by simpa only [e1] using hw⟩
        refine ⟨_, (stepG_cas_miss (v := 4294967296) (old := 12884901888) (n := 12884901889) rfl rfl (by k_ne) rfl H.f_casU64 (x_casU64_n Tryz.link) (x_casU64_b Tryz.link) (x_casU64_x Tryz.link) .u64 (x_casU64_f Tryz.link) rfl rfl rfl hw.cellSt (hw.thaw 0) (by decide)).trans rfl, M + 100, ?_⟩
        replace hwi := h₂.wi hwi
        clear h₂ hw hcv e0 e1
        walk_nrm
        (co_applyP gd_val T rfl rfl (by k_ne) ?_ ?_ ?_; (focus (intro _ K hK; go_simp; (try w_num); exact hK)); (focus (intro _; simp [go_sem, *]; done)); (try walk_nrm))
        with_reducible refine gd_c T (G_running _ _) (fun _ => stepG_region_end) ?_
        with_reducible refine gd_c T (G_running _ _) (fun _ => stepG_ret') ?_
        (refine gd_leave1 T rfl rfl Tryz.func46 rfl ?_; (try walk_nrm))
        with_reducible refine gd_c T (G_running _ _) (fun _ => stepG_region_end) ?_
        (refine gd_c T rfl (fun _ => stepG_cond (t := false) rfl) ?_; simp only [if_true, if_false, Bool.false_eq_true, ↓reduceIte])
        with_reducible refine gd_c T (G_running _ _) (fun _ => stepG_skip) ?_
        with_reducible refine gd_c T (G_running _ _) (fun _ => stepG_inBlock) ?_
        with_reducible refine gd_c T (G_running _ _) (fun _ => stepG_inLoop) ?_
        exact (hM 2 (by omega) _ _ rfl rfl hwi hcv').mono (by omega)
      · have e1 : ((2 : Nat) : Int) * KK = 8589934592 := by decide
        simp only [e1] at hw
        have hcv' : x.CL 2 w₂ := ⟨2, by omega, by simpa only [e1] using hw⟩
        refine ⟨_, (stepG_cas_miss (v := 8589934592) (old := 12884901888) (n := 12884901889) rfl rfl (by k_ne) rfl H.f_casU64 (x_casU64_n Tryz.link) (x_casU64_b Tryz.link) (x_casU64_x Tryz.link) .u64 (x_casU64_f Tryz.link) rfl rfl rfl hw.cellSt (hw.thaw 0) (by decide)).trans rfl, M + 100, ?_⟩
        replace hwi := h₂.wi hwi
        clear h₂ hw hcv e0 e1
        walk_nrm
        (co_applyP gd_val T rfl rfl (by k_ne) ?_ ?_ ?_; (focus (intro _ K hK; go_simp; (try w_num); exact hK)); (focus (intro _; simp [go_sem, *]; done)); (try walk_nrm))
        with_reducible refine gd_c T (G_running _ _) (fun _ => stepG_region_end) ?_
        with_reducible refine gd_c T (G_running _ _) (fun _ => stepG_ret') ?_
        (refine gd_leave1 T rfl rfl Tryz.func46 rfl ?_; (try walk_nrm))
        with_reducible refine gd_c T (G_running _ _) (fun _ => stepG_region_end) ?_
        (refine gd_c T rfl (fun _ => stepG_cond (t := false) rfl) ?_; simp only [if_true, if_false, Bool.false_eq_true, ↓reduceIte])
        with_reducible refine gd_c T (G_running _ _) (fun _ => stepG_skip) ?_
        with_reducible refine gd_c T (G_running _ _) (fun _ => stepG_inBlock) ?_
        with_reducible refine gd_c T (G_running _ _) (fun _ => stepG_inLoop) ?_
        exact (hM 2 (by omega) _ _ rfl rfl hwi hcv').mono (by omega)
end
end Go.Proofs.YtacimedkchjfnaaGreat
end
