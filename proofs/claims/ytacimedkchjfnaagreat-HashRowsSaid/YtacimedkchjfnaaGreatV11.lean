/- Part 11 of the proof: C13, C14. -/
import Derived.Test.YtacimedkchjfnaaGreatV10
section
/-! Goroutine 0 in 'shards': it hands the jobs out. -/
namespace Go.Proofs.YtacimedkchjfnaaGreat
set_option linter.unusedSimpArgs false
set_option linter.unusedVariables false
set_option maxRecDepth 100000
open Go.Conc Go.RowKit Go.Conc.Lib Go.ConcR.Gen
open Go.ConcR (KK wgBlock WgAt stA smA rd wr deafBehind_cons deafBehind_one)
open Go.ConcN (WgLive)
noncomputable def D16 : Code := match Tryz.f16.body.getD .skip with
  | .seq _ (.seq _ (.seq _ (.seq _ (.seq _ c)))) => c
  | _ => .skip
noncomputable def LB16 : Code := match D16 with
  | .seq (.seq _ (.block _ (.loop c))) _ => c
  | _ => .skip
noncomputable def ops12 : Array Oper := match LB16 with
  | .seq _ (.seq _ (.seq (.block _ (.seq _ (.region _ ops _))) _)) => ops
  | _ => #[]
noncomputable def R13 : Code := match LB16 with
  | .seq _ (.seq _ (.seq _ c)) => c
  | _ => .skip
/-- What came in: the keys. -/
structure KC (x : Ph) (a0 : Option Addr) (ks : Nat → ByteArray) : Prop where
  key : ∀ q, q < x.N → ∃ ad, a0 = some ad ∧ x.Fx ad.block ∧ ¬ x.Shun (.cell (ad.add q)) ∧ x.W0.cell? (ad.add q) = some (.string (ks q))
  job : ∀ q, q < x.N → x.job q = .agg #[.int .i64 q, .string (ks q)]
theorem add_blk (a : Addr) (n : Nat) : (a.add n).block = a.block := by unfold Addr.add; split <;> rfl
theorem und22 : Tryz.prog.underlying 22 = some (.slice 9) := by kernel_rfl
theorem cell_fx {x : Ph} {w : World} (h : x.WI w) {a : Addr} (hb : x.Fx a.block) {v : Value} (hv : x.W0.cell? a = some v) : w.cell? a = some v := by
  have e := h.fix a.block hb
  simp only [World.cell?, e] at hv ⊢
  exact hv
section
variable {x : Ph} {bN bO bJ bE : Nat} {nv : Int} {a0 : Option Addr} {cap : Nat} {ks : Nat → ByteArray} {cs₀ : List Frame}
/-- What goroutine 0 holds of the world while it sends. -/
abbrev IM (x : Ph) (w : World) : Prop := x.WI w ∧ x.CL 3 w
theorem im_rely {w w₁ : World} (r : x.RM w w₁) (h : IM x w) : IM x w₁ := ⟨r.wi h.1, r.down 3 h.2⟩
theorem evM_read {b : Nat} (h : x.RdB b) (hs : ∀ l, x.Shun l → ∃ a : Addr, l = .cell a ∧ a.block < x.Lo) (i : Nat) : x.EvM ⟨.cell ⟨b, i, none⟩, false, false⟩ :=
  .inr (.inr (.inl ⟨_, rfl, h.2, fun e => by obtain ⟨a, e1, e2⟩ := hs _ e; cases e1; exact absurd h.1 (by simpa using e2)⟩))
set_option maxHeartbeats 8000000 in
theorem send_loop (B : BX x bN bO bJ bE nv) (Gx : x.Geo) (hN : x.N ≤ 140737488355328) (KK0 : KC x a0 ks) :
    ∀ (r q : Nat), q + r = x.N → ∀ T : Array Value, T16 x bN bO bJ bE (.slice a0 x.N cap) T → T[21]? = some (.slice a0 x.N cap) → T[22]? = some (.int .i64 x.N) → T[23]? = some (.int .i64 q) → ∀ w, x.WI w → x.CL 3 w →
      GD Tryz.prog true x.RM x.DM (x.MSnd Tryz.prog (AnchF x bN bO bJ bE (.slice a0 x.N cap) cs₀) r) 80 0 (G ((base 16).at ⟨T, []⟩ [.code LB16, .inLoop LB16, .inBlock 2, .code E16]) cs₀) w := by
  have hD : ∀ (d : Nat) (w : World) (es : Array Event), (∀ e ∈ es, x.EvM e) → x.DM d w w es := fun d w es h => ⟨rfl, h⟩
  have hI : ∀ w w₁ : World, x.RM w w₁ → IM x w → IM x w₁ := fun w w₁ r h => im_rely r h
  have T := tM x
  have l16 : (Tryz.prog.funcs[(base 16).fn]?).any (·.norace) = false := by kernel_rfl
  intro r
  induction r with
  | zero =>
    intro q hq T₀ hT h21 h22 h23 w hwi hcl
    obtain ⟨v0, v1, v2, v3, v4, v5, v6, v7, v8, v9, v10, v11, v12, v13, v14, v15, v16, v17, v18, v19, v20, v21, v22, v23, v24, v25, v26, v27, v28, v29, v30, v31, v32, v33, v34, v35, rfl⟩ := arr36 T₀ hT.size
    obtain ⟨_, e0, e3, e5, e6, e7, e8⟩ := id hT
    simp only [List.getElem?_toArray, List.getElem?_cons_succ, List.getElem?_cons_zero, Option.some.injEq] at e0 e3 e5 e6 e7 e8 h21 h22 h23
    subst e0 e3 e5 e6 e7 e8 h21 h22 h23
    clear hT
    have hl : ((q : Int) < (x.N : Int)) = False := by simp; omega
    have hIw : IM x w := ⟨hwi, hcl⟩
    simp only [LB16, D16, E16, Tryz.f16, Option.getD_some]
    with_reducible refine gd_c T (G_running _ _) (fun _ => stepG_seq) ?_
    ((with_reducible refine gd_c T (G_running _ _) (fun _ => stepG_region) ?_); simp only [List.size_toArray, List.length_cons, List.length_nil, Nat.reduceAdd, Nat.zero_add, List.range, List.range.loop])
    (co_applyP gd_val T rfl rfl (by k_ne) ?_ ?_ ?_; (focus (intro _ K hK; go_simp; (try w_num); exact hK)); (focus (intro _; simp [go_sem, *]; done)); (try walk_nrm))
    with_reducible refine gd_c T (G_running _ _) (fun _ => stepG_region_end) ?_
    with_reducible refine gd_c T (G_running _ _) (fun _ => stepG_seq) ?_
    (refine gd_c T rfl (fun _ => stepG_cond (t := false) rfl) ?_; simp only [if_true, if_false, Bool.false_eq_true, ↓reduceIte])
    refine gd_c T rfl (fun _ => stepG_exit rfl) ?_
    with_reducible refine gd_c T (G_running _ _) (fun _ => stepG_seq) ?_
    ((with_reducible refine gd_c T (G_running _ _) (fun _ => stepG_region) ?_); simp only [List.size_toArray, List.length_cons, List.length_nil, Nat.reduceAdd, Nat.zero_add, List.range, List.range.loop])
    (refine gd_op rfl rfl (by k_ne) (fun w₁ h₁ K hK => ?_); replace hIw := hI _ _ h₁ hIw; have hc := cell_fix hIw.1 B.e B.ce; go_simp; refine hK _ _ (hD _ _ _ (fun e he => ?_)) (deafBehind_plain (fun e he => ?_)) ?_; (focus (have hm := mem_listed he; simp [go_sem, hc] at hm; subst hm; exact evM_read B.e Gx.shun 0)); (focus (have hm := mem_listed he; simp [go_sem, hc] at hm; subst hm; exact ⟨_, _, _, rfl⟩)); clear hK K hc h₁; (try walk_nrm))
    refine GD.stop (fun w₁ h₁ => ?_)
    have hIw := hI _ _ h₁ hIw
    have := close14 (cs₀ := cs₀) (bN := bN) (bO := bO) (bJ := bJ) (bE := bE) (keys := .slice a0 x.N cap) Gx (T₀ := #[(.slice a0 x.N cap), v1, v2, (.pointer (some ⟨bN, 0, none⟩)), v4, (.pointer (some ⟨bO, 0, none⟩)), (.pointer (some ⟨bJ, 0, none⟩)), (.pointer (some ⟨bE, 0, none⟩)), (.pointer (some ⟨x.Wg, 0, none⟩)), v9, v10, v11, v12, v13, v14, v15, v16, v17, v18, v19, v20, (.slice a0 x.N cap), (.int .i64 x.N), (.int .i64 q), .bool false, v25, v26, v27, v28, v29, v30, v31, v32, (.chan (some x.E)), v34, v35]) ⟨rfl, rfl, rfl, rfl, rfl, rfl, rfl⟩ rfl w₁ hIw.1 hIw.2
    simp only [ops14, K14, E16, Tryz.f16, Option.getD_some] at this
    exact this
  | succ r ih =>
    intro q hq T₀ hT h21 h22 h23 w hwi hcl
    obtain ⟨v0, v1, v2, v3, v4, v5, v6, v7, v8, v9, v10, v11, v12, v13, v14, v15, v16, v17, v18, v19, v20, v21, v22, v23, v24, v25, v26, v27, v28, v29, v30, v31, v32, v33, v34, v35, rfl⟩ := arr36 T₀ hT.size
    obtain ⟨_, e0, e3, e5, e6, e7, e8⟩ := id hT
    simp only [List.getElem?_toArray, List.getElem?_cons_succ, List.getElem?_cons_zero, Option.some.injEq] at e0 e3 e5 e6 e7 e8 h21 h22 h23
    subst e0 e3 e5 e6 e7 e8 h21 h22 h23
    clear hT
    have hl : ((q : Int) < (x.N : Int)) = True := by simp; omega
    have hq0 : (0 : Int) ≤ (q : Int) ∧ (q : Int) < (x.N : Int) := by omega
    obtain ⟨ad, rfl, hfx, hsh, hcell⟩ := KK0.key q (by omega)
    have hfx' : x.Fx (ad.add q).block := by rw [add_blk]; exact hfx
    have hIw : IM x w := ⟨hwi, hcl⟩
    simp only [LB16, D16, E16, Tryz.f16, Option.getD_some] at ih ⊢
    with_reducible refine gd_c T (G_running _ _) (fun _ => stepG_seq) ?_
    ((with_reducible refine gd_c T (G_running _ _) (fun _ => stepG_region) ?_); simp only [List.size_toArray, List.length_cons, List.length_nil, Nat.reduceAdd, Nat.zero_add, List.range, List.range.loop])
    (co_applyP gd_val T rfl rfl (by k_ne) ?_ ?_ ?_; (focus (intro _ K hK; go_simp; (try w_num); exact hK)); (focus (intro _; simp [go_sem, *]; done)); (try walk_nrm))
    with_reducible refine gd_c T (G_running _ _) (fun _ => stepG_region_end) ?_
    with_reducible refine gd_c T (G_running _ _) (fun _ => stepG_seq) ?_
    (refine gd_c T rfl (fun _ => stepG_cond (t := true) rfl) ?_; simp only [if_true, if_false, Bool.false_eq_true, ↓reduceIte])
    with_reducible refine gd_c T (G_running _ _) (fun _ => stepG_skip) ?_
    with_reducible refine gd_c T (G_running _ _) (fun _ => stepG_seq) ?_
    with_reducible refine gd_c T (G_running _ _) (fun _ => stepG_block) ?_
    with_reducible refine gd_c T (G_running _ _) (fun _ => stepG_seq) ?_
    ((with_reducible refine gd_c T (G_running _ _) (fun _ => stepG_region) ?_); simp only [List.size_toArray, List.length_cons, List.length_nil, Nat.reduceAdd, Nat.zero_add, List.range, List.range.loop])
    (co_applyP gd_val T rfl rfl (by k_ne) ?_ ?_ ?_; (focus (intro _ K hK; go_simp; (try w_num); exact hK)); (focus (intro _; simp [go_sem, *]; done)); (try walk_nrm))
    (co_applyP gd_val T rfl rfl (by k_ne) ?_ ?_ ?_; (focus (intro _ K hK; go_simp; exact hK)); (focus (intro _; simp [go_sem, und22, hq0]; done)); (try walk_nrm))
    (refine gd_op rfl rfl (by k_ne) (fun w₁ h₁ K hK => ?_); replace hIw := hI _ _ h₁ hIw; have hc := cell_fx hIw.1 hfx' hcell; go_simp; refine hK _ _ (hD _ _ _ (fun e he => ?_)) (deafBehind_plain (fun e he => ?_)) ?_; (focus (have hm := mem_listed he; simp [go_sem, hc] at hm; subst hm; exact .inr (.inr (.inl ⟨_, rfl, hfx', hsh⟩)))); (focus (have hm := mem_listed he; simp [go_sem, hc] at hm; subst hm; exact ⟨_, _, _, rfl⟩)); clear hK K hc h₁; (try walk_nrm))
    (co_applyP gd_val T rfl rfl (by k_ne) ?_ ?_ ?_; (focus (intro _ K hK; go_simp; (try w_num); exact hK)); (focus (intro _; simp [go_sem, *]; done)); (try walk_nrm))
    (co_applyP gd_val T rfl rfl (by k_ne) ?_ ?_ ?_; (focus (intro _ K hK; go_simp; (try w_num); exact hK)); (focus (intro _; simp [go_sem, *]; done)); (try walk_nrm))
    with_reducible refine gd_c T (G_running _ _) (fun _ => stepG_region_end) ?_
    ((with_reducible refine gd_c T (G_running _ _) (fun _ => stepG_region) ?_); simp only [List.size_toArray, List.length_cons, List.length_nil, Nat.reduceAdd, Nat.zero_add, List.range, List.range.loop])
    (refine gd_op rfl rfl (by k_ne) (fun w₁ h₁ K hK => ?_); replace hIw := hI _ _ h₁ hIw; have hc := cell_fix hIw.1 B.j B.cj; go_simp; refine hK _ _ (hD _ _ _ (fun e he => ?_)) (deafBehind_plain (fun e he => ?_)) ?_; (focus (have hm := mem_listed he; simp [go_sem, hc] at hm; subst hm; exact evM_read B.j Gx.shun 0)); (focus (have hm := mem_listed he; simp [go_sem, hc] at hm; subst hm; exact ⟨_, _, _, rfl⟩)); clear hK K hc h₁; (try walk_nrm))
    (co_applyP gd_val T rfl rfl (by k_ne) ?_ ?_ ?_; (focus (intro _ K hK; go_simp; (try w_num); exact hK)); (focus (intro _; simp [go_sem, *]; done)); (try walk_nrm))
    (co_applyP gd_val T rfl rfl (by k_ne) ?_ ?_ ?_; (focus (intro _ K hK; go_simp; (try w_num); exact hK)); (focus (intro _; simp [go_sem, *]; done)); (try walk_nrm))
    (co_applyP gd_val T rfl rfl (by k_ne) ?_ ?_ ?_; (focus (intro _ K hK; go_simp; (try w_num); exact hK)); (focus (intro _; simp [go_sem, *]; done)); (try walk_nrm))
    refine GD.stop (fun w₁ h₁ => ?_)
    have hqr : x.N - (r + 1) = q := by omega
    have hsend := stepG_comm (P := Tryz.prog) (main := true) (b := base 16) (a := ⟨#[(.slice (some ad) x.N cap), v1, v2, (.pointer (some ⟨bN, 0, none⟩)), v4, (.pointer (some ⟨bO, 0, none⟩)), (.pointer (some ⟨bJ, 0, none⟩)), (.pointer (some ⟨bE, 0, none⟩)), (.pointer (some ⟨x.Wg, 0, none⟩)), .int .i64 q, .string (ks q), v11, v12, v13, v14, v15, v16, v17, v18, v19, v20, (.slice (some ad) x.N cap), (.int .i64 x.N), (.int .i64 q), .bool true, .int .i64 q, .pointer (some (ad.add q)), .string (ks q), .chan (some x.J), .int .i64 q, .string (ks q), .agg #[.int .i64 q, .string (ks q)], v32, v33, v34, v35], []⟩)
      (k := [.inBlock 3, .code R13, .inLoop LB16, .inBlock 2, .code E16]) (cs := cs₀) (w := w₁) (ops := ops12) (i := 4) (rest := []) (o := ops12.getD 4 default) (cases := x.snd1 q) (blocking := true) (shape := .send) (w' := w₁) rfl rfl (by decide)
      (by
        simp [ops12, LB16, D16, Tryz.f16, go_sem, execOp, Act.eval, Ph.snd1, scase, KK0.job q (by omega)]
        rfl)
    have hl12 : listed Tryz.prog 16 ⟨#[(.slice (some ad) x.N cap), v1, v2, (.pointer (some ⟨bN, 0, none⟩)), v4, (.pointer (some ⟨bO, 0, none⟩)), (.pointer (some ⟨bJ, 0, none⟩)), (.pointer (some ⟨bE, 0, none⟩)), (.pointer (some ⟨x.Wg, 0, none⟩)), .int .i64 q, .string (ks q), v11, v12, v13, v14, v15, v16, v17, v18, v19, v20, (.slice (some ad) x.N cap), (.int .i64 x.N), (.int .i64 q), .bool true, .int .i64 q, .pointer (some (ad.add q)), .string (ks q), .chan (some x.J), .int .i64 q, .string (ks q), .agg #[.int .i64 q, .string (ks q)], v32, v33, v34, v35], []⟩ (ops12.getD 4 default) w₁ = #[] := by
      refine listed_nil ?_
      simp [ops12, LB16, D16, Tryz.f16, go_sem]
    have hsend := hsend.trans (congrArg _ hl12)
    simp only [ops12, R13, LB16, D16, E16, Tryz.f16, Option.getD_some] at hsend
    refine ⟨rfl, rfl, _, by rw [hqr]; exact hsend, ?_⟩
    rw [hqr]
    intro w₂ hwi₂ hcl₂
    refine ⟨100, ?_⟩
    clear hsend hl12 h₁ hIw hcl hwi
    simp only [Goroutine.finishComm, G, Frame.finish_at]
    show GD Tryz.prog true x.RM x.DM _ 100 0 (G ((base 16).at _ _) cs₀) w₂
    simp only [List.getElem?_toArray, List.getElem?_cons_succ, List.getElem?_cons_zero, Option.bind_some, Act.put]
    with_reducible refine gd_c T (G_running _ _) (fun _ => stepG_region_end) ?_
    with_reducible refine gd_c T (G_running _ _) (fun _ => stepG_inBlock) ?_
    ((with_reducible refine gd_c T (G_running _ _) (fun _ => stepG_region) ?_); simp only [List.size_toArray, List.length_cons, List.length_nil, Nat.reduceAdd, Nat.zero_add, List.range, List.range.loop])
    (co_applyP gd_val T rfl rfl (by k_ne) ?_ ?_ ?_; (focus (intro _ K hK; go_simp; (try w_num); exact hK)); (focus (intro _; simp [go_sem, *]; done)); (try walk_nrm))
    (co_applyP gd_val T rfl rfl (by k_ne) ?_ ?_ ?_; (focus (intro _ K hK; go_simp; (try w_num); exact hK)); (focus (intro _; simp [go_sem, *]; done)); (try walk_nrm))
    with_reducible refine gd_c T (G_running _ _) (fun _ => stepG_region_end) ?_
    with_reducible refine gd_c T (G_running _ _) (fun _ => stepG_inLoop) ?_
    have e1 : IntKind.i64.wrap ((q : Int) + 1) = ((q + 1 : Nat) : Int) := by rw [IntKind.wrap_i64]; omega
    simp only [e1]
    exact (ih (q + 1) (by omega) _ ⟨rfl, rfl, rfl, rfl, rfl, rfl, rfl⟩ rfl rfl rfl w₂ hwi₂ hcl₂).mono (by omega)
/-- From the loop's head on. -/
theorem send_walk (B : BX x bN bO bJ bE nv) (Gx : x.Geo) (hN : x.N ≤ 140737488355328) (KK0 : KC x a0 ks) {T₀ : Array Value} (hT : T16 x bN bO bJ bE (.slice a0 x.N cap) T₀) (w : World) (hwi : x.WI w) (hcl : x.CL 3 w) :
    GD Tryz.prog true x.RM x.DM (x.MSnd Tryz.prog (AnchF x bN bO bJ bE (.slice a0 x.N cap) cs₀) x.N) 120 0 (G ((base 16).at ⟨T₀, []⟩ [.code D16]) cs₀) w := by
  obtain ⟨v0, v1, v2, v3, v4, v5, v6, v7, v8, v9, v10, v11, v12, v13, v14, v15, v16, v17, v18, v19, v20, v21, v22, v23, v24, v25, v26, v27, v28, v29, v30, v31, v32, v33, v34, v35, rfl⟩ := arr36 T₀ hT.size
  obtain ⟨_, e0, e3, e5, e6, e7, e8⟩ := id hT
  simp only [List.getElem?_toArray, List.getElem?_cons_succ, List.getElem?_cons_zero, Option.some.injEq] at e0 e3 e5 e6 e7 e8
  subst e0 e3 e5 e6 e7 e8
  have T := tM x
  have hl := fun T₁ hT₁ h21 h22 h23 => send_loop (cap := cap) (cs₀ := cs₀) B Gx hN KK0 x.N 0 (by omega) T₁ hT₁ h21 h22 h23 w hwi hcl
  simp only [LB16, D16, E16, Tryz.f16, Option.getD_some] at hl ⊢
  with_reducible refine gd_c T (G_running _ _) (fun _ => stepG_seq) ?_
  with_reducible refine gd_c T (G_running _ _) (fun _ => stepG_seq) ?_
  ((with_reducible refine gd_c T (G_running _ _) (fun _ => stepG_region) ?_); simp only [List.size_toArray, List.length_cons, List.length_nil, Nat.reduceAdd, Nat.zero_add, List.range, List.range.loop])
  (co_applyP gd_val T rfl rfl (by k_ne) ?_ ?_ ?_; (focus (intro _ K hK; go_simp; (try w_num); exact hK)); (focus (intro _; simp [go_sem, *]; done)); (try walk_nrm))
  (co_applyP gd_val T rfl rfl (by k_ne) ?_ ?_ ?_; (focus (intro _ K hK; go_simp; (try w_num); exact hK)); (focus (intro _; simp [go_sem, *]; done)); (try walk_nrm))
  (co_applyP gd_val T rfl rfl (by k_ne) ?_ ?_ ?_; (focus (intro _ K hK; go_simp; (try w_num); exact hK)); (focus (intro _; simp [go_sem, *]; done)); (try walk_nrm))
  with_reducible refine gd_c T (G_running _ _) (fun _ => stepG_region_end) ?_
  with_reducible refine gd_c T (G_running _ _) (fun _ => stepG_block) ?_
  with_reducible refine gd_c T (G_running _ _) (fun _ => stepG_loop) ?_
  exact (hl _ ⟨rfl, rfl, rfl, rfl, rfl, rfl, rfl⟩ rfl rfl rfl).mono (by omega)
end
end Go.Proofs.YtacimedkchjfnaaGreat
end

section
/-! Goroutine 0 in 'shards': it starts the workers. -/
namespace Go.Proofs.YtacimedkchjfnaaGreat
set_option linter.unusedSimpArgs false
set_option linter.unusedVariables false
set_option maxRecDepth 100000
open Go.Conc Go.RowKit Go.Conc.Lib Go.ConcR.Gen
open Go.ConcR (KK wgBlock WgAt stA smA rd wr deafBehind_cons deafBehind_one)
open Go.ConcN (WgLive)
noncomputable def S16 : Code := match Tryz.f16.body.getD .skip with
  | .seq _ (.seq _ (.seq _ (.seq _ c))) => c
  | _ => .skip
noncomputable def LA16 : Code := match S16 with
  | .seq (.seq _ (.block _ (.loop c))) _ => c
  | _ => .skip
noncomputable def ops6 : Array Oper := match LA16 with
  | .seq _ (.seq _ (.seq (.block _ (.seq (.region _ ops _) _)) _)) => ops
  | _ => #[]
noncomputable def ops7 : Array Oper := match LA16 with
  | .seq _ (.seq _ (.seq (.block _ (.seq _ (.region _ ops _))) _)) => ops
  | _ => #[]
noncomputable def K7 : Code := match LA16 with
  | .seq _ (.seq _ (.seq (.block _ (.seq _ c)) _)) => c
  | _ => .skip
noncomputable def R8 : Code := match LA16 with
  | .seq _ (.seq _ (.seq _ c)) => c
  | _ => .skip
section
variable {x : Ph} {bN bO bJ bE : Nat} {nv : Int} {a0 : Option Addr} {cap : Nat} {ks : Nat → ByteArray} {cs₀ : List Frame}
abbrev MSp16 (x : Ph) (bN bO bJ bE : Nat) (keys : Value) (cs₀ : List Frame) (r : Nat) := x.MSp Tryz.prog (AnchF x bN bO bJ bE keys cs₀) (AnchW x bN bO bJ bE) r
set_option maxHeartbeats 8000000 in
theorem to_go (B : BX x bN bO bJ bE nv) {r j : Nat} (hj : j + r = 2) {Nx : Goroutine → World → Prop}
    (hNx : ∀ T' : Array Value, T16 x bN bO bJ bE (.slice a0 x.N cap) T' → T'[16]? = some (.int .i64 j) → ∀ w', WgAt x.ty x.Wg w' (((j + 1 : Nat) : Int) * KK) 0 → Nx (G ((base 16).at ⟨T', []⟩ [.inRegion ops7 [], .inBlock 1, .code R8, .inLoop LA16, .inBlock 0, .code D16]) cs₀) w')
    {T₀ : Array Value} (hT : T16 x bN bO bJ bE (.slice a0 x.N cap) T₀) (h16 : T₀[16]? = some (.int .i64 j)) (w : World) (hwg : WgAt x.ty x.Wg w ((j : Int) * KK) 0) :
    GD Tryz.prog true AtRel x.DS (x.AtGo Tryz.prog (AnchW x bN bO bJ bE) r Nx) 400 0 (G ((base 16).at ⟨T₀, []⟩ [.code LA16, .inLoop LA16, .inBlock 0, .code D16]) cs₀) w := by
  have T := tS x
  obtain ⟨v0, v1, v2, v3, v4, v5, v6, v7, v8, v9, v10, v11, v12, v13, v14, v15, v16, v17, v18, v19, v20, v21, v22, v23, v24, v25, v26, v27, v28, v29, v30, v31, v32, v33, v34, v35, rfl⟩ := arr36 T₀ hT.size
  obtain ⟨_, e0, e3, e5, e6, e7, e8⟩ := id hT
  simp only [List.getElem?_toArray, List.getElem?_cons_succ, List.getElem?_cons_zero, Option.some.injEq] at e0 e3 e5 e6 e7 e8 h16
  subst e0 e3 e5 e6 e7 e8 h16
  clear hT
  have hl : ((j : Int) < 3) = True := by simp; omega
  simp only [LA16, S16, D16, R8, ops7, Tryz.f16, Option.getD_some] at hNx ⊢
  with_reducible refine gd_c T (G_running _ _) (fun _ => stepG_seq) ?_
  ((with_reducible refine gd_c T (G_running _ _) (fun _ => stepG_region) ?_); simp only [List.size_toArray, List.length_cons, List.length_nil, Nat.reduceAdd, Nat.zero_add, List.range, List.range.loop])
  (co_applyP gd_val T rfl rfl (by k_ne) ?_ ?_ ?_; (focus (intro _ K hK; go_simp; (try w_num); exact hK)); (focus (intro _; simp [go_sem, *]; done)); (try walk_nrm))
  with_reducible refine gd_c T (G_running _ _) (fun _ => stepG_region_end) ?_
  with_reducible refine gd_c T (G_running _ _) (fun _ => stepG_seq) ?_
  (refine gd_c T rfl (fun _ => stepG_cond (t := true) rfl) ?_; simp only [if_true, if_false, Bool.false_eq_true, ↓reduceIte])
  with_reducible refine gd_c T (G_running _ _) (fun _ => stepG_skip) ?_
  with_reducible refine gd_c T (G_running _ _) (fun _ => stepG_seq) ?_
  with_reducible refine gd_c T (G_running _ _) (fun _ => stepG_block) ?_
  with_reducible refine gd_c T (G_running _ _) (fun _ => stepG_seq) ?_
  ((with_reducible refine gd_c T (G_running _ _) (fun _ => stepG_region) ?_); simp only [List.size_toArray, List.length_cons, List.length_nil, Nat.reduceAdd, Nat.zero_add, List.range, List.range.loop])
  (refine gd_call T rfl rfl (by k_ne) rfl Tryz.func23 cn23 rfl ?_; walk_nrmf Tryz.f23)
  refine GD.mono (n := 150 + 200) ?_ (by omega)
  refine add_walk (m := 150) (by omega) w hwg (fun d => ?_)
  have hwg' := WgAt.setSt (w := w.at d) hwg (((j + 1 : Nat) : Int) * KK)
  generalize (w.at d).setCell (stA x.Wg) (.int .u64 (((j + 1 : Nat) : Int) * KK)) = w' at hwg' ⊢
  (try walk_nrm)
  with_reducible refine gd_c T (G_running _ _) (fun _ => stepG_region_end) ?_
  ((with_reducible refine gd_c T (G_running _ _) (fun _ => stepG_region) ?_); simp only [List.size_toArray, List.length_cons, List.length_nil, Nat.reduceAdd, Nat.zero_add, List.range, List.range.loop])
  (co_applyP gd_val T rfl rfl (by k_ne) ?_ ?_ ?_; (focus (intro _ K hK; go_simp; (try w_num); exact hK)); (focus (intro _; simp [go_sem, *]; done)); (try walk_nrm))
  refine GD.stop (fun w₁ h₁ => ?_)
  replace hwg' := rel_at hwg' h₁
  have hsp := stepG_spawn (P := Tryz.prog) (main := true) (b := base 16) (a := ⟨#[.slice a0 x.N cap, v1, v2, .pointer (some ⟨bN, 0, none⟩), v4, .pointer (some ⟨bO, 0, none⟩), .pointer (some ⟨bJ, 0, none⟩), .pointer (some ⟨bE, 0, none⟩), .pointer (some ⟨x.Wg, 0, none⟩), v9, v10, v11, v12, v13, v14, v15, .int .i64 j, .bool true, .tuple #[],
      .func (.func 24) #[] #[.pointer (some ⟨x.Wg, 0, none⟩), .pointer (some ⟨bJ, 0, none⟩), .pointer (some ⟨bN, 0, none⟩), .pointer (some ⟨bO, 0, none⟩), .pointer (some ⟨bE, 0, none⟩)], v20, v21, v22, v23, v24, v25, v26, v27, v28, v29, v30, v31, v32, v33, v34, v35], []⟩)
    (k := [.inBlock 1, .code R8, .inLoop LA16, .inBlock 0, .code D16]) (cs := cs₀) (w := w₁) (w' := w₁) (ops := ops7) (i := 1) (rest := []) (o := ops7.getD 1 default) (d := call24 x bN bO bJ bE) (f := .func 24) (c := #[.pointer (some ⟨x.Wg, 0, none⟩), .pointer (some ⟨bJ, 0, none⟩), .pointer (some ⟨bN, 0, none⟩), .pointer (some ⟨bO, 0, none⟩), .pointer (some ⟨bE, 0, none⟩)]) rfl rfl (by decide)
    (by
      simp [ops7, LA16, S16, Tryz.f16, go_sem, execOp, Act.eval, call24]
      (try rfl)) rfl
  have hl7 : listed Tryz.prog 16 ⟨#[.slice a0 x.N cap, v1, v2, .pointer (some ⟨bN, 0, none⟩), v4, .pointer (some ⟨bO, 0, none⟩), .pointer (some ⟨bJ, 0, none⟩), .pointer (some ⟨bE, 0, none⟩), .pointer (some ⟨x.Wg, 0, none⟩), v9, v10, v11, v12, v13, v14, v15, .int .i64 j, .bool true, .tuple #[],
      .func (.func 24) #[] #[.pointer (some ⟨x.Wg, 0, none⟩), .pointer (some ⟨bJ, 0, none⟩), .pointer (some ⟨bN, 0, none⟩), .pointer (some ⟨bO, 0, none⟩), .pointer (some ⟨bE, 0, none⟩)], v20, v21, v22, v23, v24, v25, v26, v27, v28, v29, v30, v31, v32, v33, v34, v35], []⟩ (ops7.getD 1 default) w₁ = #[] := by
    refine listed_nil ?_
    simp [ops7, LA16, S16, Tryz.f16, go_sem]
  have hsp := hsp.trans (congrArg _ hl7)
  simp only [ops7, R8, LA16, S16, D16, E16, Tryz.f16, Option.getD_some] at hsp
  refine ⟨rfl, rfl, ?_, _, _, hsp, rfl, rfl, fun w₂ hw₂ => ⟨60, child24 B w₂ hw₂⟩, ?_⟩
  · rw [show 3 - r = j + 1 by omega]; exact hwg'
  · exact hNx _ ⟨rfl, rfl, rfl, rfl, rfl, rfl, rfl⟩ rfl w₁ hwg'
set_option maxHeartbeats 8000000 in
theorem spawn_loop (B : BX x bN bO bJ bE nv) (Gx : x.Geo) (hN : x.N ≤ 140737488355328) (KK0 : KC x a0 ks) :
    ∀ (r j : Nat), j + r = 2 → ∀ T : Array Value, T16 x bN bO bJ bE (.slice a0 x.N cap) T → T[16]? = some (.int .i64 j) → ∀ w, WgAt x.ty x.Wg w ((j : Int) * KK) 0 →
      GD Tryz.prog true AtRel x.DS (MSp16 x bN bO bJ bE (.slice a0 x.N cap) cs₀ r) 400 0 (G ((base 16).at ⟨T, []⟩ [.code LA16, .inLoop LA16, .inBlock 0, .code D16]) cs₀) w := by
  intro r
  induction r with
  | zero =>
    intro j hj T₀ hT h16 w hwg
    refine to_go (Nx := fun g' _ => ∀ w₁, x.WI w₁ → x.CL 3 w₁ → ∃ m, GD Tryz.prog true x.RM x.DM (x.MSnd Tryz.prog (AnchF x bN bO bJ bE (.slice a0 x.N cap) cs₀) x.N) m 0 g' w₁) B hj (fun T₁ hT₁ h16 w' hwg' => ?_) hT h16 w hwg
    intro w₁ hwi hcl
    have T := tM x
    obtain rfl : j = 2 := by omega
    obtain ⟨v0, v1, v2, v3, v4, v5, v6, v7, v8, v9, v10, v11, v12, v13, v14, v15, v16, v17, v18, v19, v20, v21, v22, v23, v24, v25, v26, v27, v28, v29, v30, v31, v32, v33, v34, v35, rfl⟩ := arr36 T₁ hT₁.size
    obtain ⟨_, e0, e3, e5, e6, e7, e8⟩ := id hT₁
    simp only [List.getElem?_toArray, List.getElem?_cons_succ, List.getElem?_cons_zero, Option.some.injEq] at e0 e3 e5 e6 e7 e8 h16
    subst e0 e3 e5 e6 e7 e8 h16
    have hs := fun T₂ (hT₂ : T16 x bN bO bJ bE (.slice a0 x.N cap) T₂) => send_walk (cap := cap) (cs₀ := cs₀) B Gx hN KK0 hT₂ w₁ hwi hcl
    refine ⟨200, ?_⟩
    simp only [LA16, S16, D16, R8, ops7, Tryz.f16, Option.getD_some] at hs ⊢
    with_reducible refine gd_c T (G_running _ _) (fun _ => stepG_region_end) ?_
    with_reducible refine gd_c T (G_running _ _) (fun _ => stepG_inBlock) ?_
    ((with_reducible refine gd_c T (G_running _ _) (fun _ => stepG_region) ?_); simp only [List.size_toArray, List.length_cons, List.length_nil, Nat.reduceAdd, Nat.zero_add, List.range, List.range.loop])
    (co_applyP gd_val T rfl rfl (by k_ne) ?_ ?_ ?_; (focus (intro _ K hK; go_simp; (try w_num); exact hK)); (focus (intro _; simp [go_sem, *]; done)); (try walk_nrm))
    (co_applyP gd_val T rfl rfl (by k_ne) ?_ ?_ ?_; (focus (intro _ K hK; go_simp; (try w_num); exact hK)); (focus (intro _; simp [go_sem, *]; done)); (try walk_nrm))
    with_reducible refine gd_c T (G_running _ _) (fun _ => stepG_region_end) ?_
    with_reducible refine gd_c T (G_running _ _) (fun _ => stepG_inLoop) ?_
    with_reducible refine gd_c T (G_running _ _) (fun _ => stepG_seq) ?_
    ((with_reducible refine gd_c T (G_running _ _) (fun _ => stepG_region) ?_); simp only [List.size_toArray, List.length_cons, List.length_nil, Nat.reduceAdd, Nat.zero_add, List.range, List.range.loop])
    (co_applyP gd_val T rfl rfl (by k_ne) ?_ ?_ ?_; (focus (intro _ K hK; go_simp; (try w_num); exact hK)); (focus (intro _; simp [go_sem, *]; done)); (try walk_nrm))
    with_reducible refine gd_c T (G_running _ _) (fun _ => stepG_region_end) ?_
    with_reducible refine gd_c T (G_running _ _) (fun _ => stepG_seq) ?_
    (refine gd_c T rfl (fun _ => stepG_cond (t := false) rfl) ?_; simp only [if_true, if_false, Bool.false_eq_true, ↓reduceIte])
    refine gd_c T rfl (fun _ => stepG_exit rfl) ?_
    exact (hs _ ⟨rfl, rfl, rfl, rfl, rfl, rfl, rfl⟩).mono (by omega)
  | succ r ih =>
    intro j hj T₀ hT h16 w hwg
    refine to_go (Nx := fun g' w' => ∃ m, GD Tryz.prog true AtRel x.DS (MSp16 x bN bO bJ bE (.slice a0 x.N cap) cs₀ r) m 0 g' w') B hj (fun T₁ hT₁ h16 w' hwg' => ?_) hT h16 w hwg
    have T := tS x
    have ih := ih (j + 1) (by omega)
    obtain ⟨v0, v1, v2, v3, v4, v5, v6, v7, v8, v9, v10, v11, v12, v13, v14, v15, v16, v17, v18, v19, v20, v21, v22, v23, v24, v25, v26, v27, v28, v29, v30, v31, v32, v33, v34, v35, rfl⟩ := arr36 T₁ hT₁.size
    obtain ⟨_, e0, e3, e5, e6, e7, e8⟩ := id hT₁
    simp only [List.getElem?_toArray, List.getElem?_cons_succ, List.getElem?_cons_zero, Option.some.injEq] at e0 e3 e5 e6 e7 e8 h16
    subst e0 e3 e5 e6 e7 e8 h16
    refine ⟨500, ?_⟩
    simp only [LA16, S16, D16, R8, ops7, Tryz.f16, Option.getD_some] at ih ⊢
    with_reducible refine gd_c T (G_running _ _) (fun _ => stepG_region_end) ?_
    with_reducible refine gd_c T (G_running _ _) (fun _ => stepG_inBlock) ?_
    ((with_reducible refine gd_c T (G_running _ _) (fun _ => stepG_region) ?_); simp only [List.size_toArray, List.length_cons, List.length_nil, Nat.reduceAdd, Nat.zero_add, List.range, List.range.loop])
    (co_applyP gd_val T rfl rfl (by k_ne) ?_ ?_ ?_; (focus (intro _ K hK; go_simp; (try w_num); exact hK)); (focus (intro _; simp [go_sem, *]; done)); (try walk_nrm))
    (co_applyP gd_val T rfl rfl (by k_ne) ?_ ?_ ?_; (focus (intro _ K hK; go_simp; (try w_num); exact hK)); (focus (intro _; simp [go_sem, *]; done)); (try walk_nrm))
    with_reducible refine gd_c T (G_running _ _) (fun _ => stepG_region_end) ?_
    with_reducible refine gd_c T (G_running _ _) (fun _ => stepG_inLoop) ?_
    have e1 : IntKind.i64.wrap ((j : Int) + 1) = ((j + 1 : Nat) : Int) := by rw [IntKind.wrap_i64]; omega
    simp only [e1]
    exact (ih _ ⟨rfl, rfl, rfl, rfl, rfl, rfl, rfl⟩ rfl w' hwg').mono (by omega)
/-- FROM THE FIRST OF THE LOOP THAT STARTS THE WORKERS. -/
theorem spawn_walk (B : BX x bN bO bJ bE nv) (Gx : x.Geo) (hN : x.N ≤ 140737488355328) (KK0 : KC x a0 ks) {T₀ : Array Value} (hT : T16 x bN bO bJ bE (.slice a0 x.N cap) T₀) (w : World) (hwg : WgAt x.ty x.Wg w 0 0) :
    GD Tryz.prog true AtRel x.DS (MSp16 x bN bO bJ bE (.slice a0 x.N cap) cs₀ 2) 440 0 (G ((base 16).at ⟨T₀, []⟩ [.code S16]) cs₀) w := by
  have T := tS x
  obtain ⟨v0, v1, v2, v3, v4, v5, v6, v7, v8, v9, v10, v11, v12, v13, v14, v15, v16, v17, v18, v19, v20, v21, v22, v23, v24, v25, v26, v27, v28, v29, v30, v31, v32, v33, v34, v35, rfl⟩ := arr36 T₀ hT.size
  obtain ⟨_, e0, e3, e5, e6, e7, e8⟩ := id hT
  simp only [List.getElem?_toArray, List.getElem?_cons_succ, List.getElem?_cons_zero, Option.some.injEq] at e0 e3 e5 e6 e7 e8
  subst e0 e3 e5 e6 e7 e8
  have hl := fun T₁ hT₁ h16 => spawn_loop (cap := cap) (cs₀ := cs₀) B Gx hN KK0 2 0 rfl T₁ hT₁ h16 w (by simpa using hwg)
  simp only [LA16, S16, D16, Tryz.f16, Option.getD_some] at hl ⊢
  with_reducible refine gd_c T (G_running _ _) (fun _ => stepG_seq) ?_
  with_reducible refine gd_c T (G_running _ _) (fun _ => stepG_seq) ?_
  ((with_reducible refine gd_c T (G_running _ _) (fun _ => stepG_region) ?_); simp only [List.size_toArray, List.length_cons, List.length_nil, Nat.reduceAdd, Nat.zero_add, List.range, List.range.loop])
  (co_applyP gd_val T rfl rfl (by k_ne) ?_ ?_ ?_; (focus (intro _ K hK; go_simp; (try w_num); exact hK)); (focus (intro _; simp [go_sem, *]; done)); (try walk_nrm))
  with_reducible refine gd_c T (G_running _ _) (fun _ => stepG_region_end) ?_
  with_reducible refine gd_c T (G_running _ _) (fun _ => stepG_block) ?_
  with_reducible refine gd_c T (G_running _ _) (fun _ => stepG_loop) ?_
  exact (hl _ ⟨rfl, rfl, rfl, rfl, rfl, rfl, rfl⟩ rfl).mono (by omega)
end
end Go.Proofs.YtacimedkchjfnaaGreat
end
