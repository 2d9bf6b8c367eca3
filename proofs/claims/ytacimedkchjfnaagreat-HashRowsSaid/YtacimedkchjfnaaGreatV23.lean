/- Part 23 of the proof: E13, E14, E15, E16. -/
import Derived.Test.YtacimedkchjfnaaGreatV22
section
/-! HashRows' begin, in company. -/
namespace Go.Proofs.YtacimedkchjfnaaGreat
set_option linter.unusedSimpArgs false
set_option linter.unusedVariables false
set_option maxRecDepth 100000
open Go.Conc Go.RowKit
/-- A step that nobody minds. -/
def DLd (d : Nat) (w w' : World) (es : Array Event) : Prop := DL (fun _ => False) w w' es
theorem tLd : GT AtRel DLd := ⟨atRel_trans, fun d w => ⟨fun e he => by simp at he, Nat.le_refl _, rfl⟩⟩
theorem dld_deaf {d : Nat} {w w' : World} {es : Array Event} (h : DLd d w w' es) : deafBehind d es = d := deafBehind_still (fun e he => ⟨(h.1 e he).2.1, (h.1 e he).2.2.1⟩) d
theorem bw_gdL {P : Program} {Stop : Goroutine → World → Prop} {n : Nat} {g : Goroutine} {w : World}
    (h : GD P true AtRel DLd (fun _ g w => BW P (DL fun _ => False) Stop g w) n 0 g w) : BW P (DL fun _ => False) Stop g w :=
  bw_bind (bw_of_gd (fun d w w' es h => dld_deaf h) h) fun g w h => h
/-- append of texts that came in, as a step of the walk. -/
theorem gd_append {Stop : Nat → Goroutine → World → Prop} {W : World} {base : Nat} {v x : Value} {xs : List Value} {l : List ByteArray} {b₀ : Frame} {a₀ : Act} {k : List Item} {cs : List Frame} {ops : Array Oper} {i : Nat} {rest : List Nat} {o : Oper} {n : Nat} (s y : Operand)
    (ho : ops[i]? = some o) (hop : o.op = .call { callee := .builtin .append, args := #[s, y], argTypes := #[22, 22] }) (hw : Region.wanted o (yielded ops a₀.tmps) = true) (hk : b₀.kind ≠ .early) (hs : a₀.eval s = v) (hy : a₀.eval y = x)
    (hown : OwnP W base 9 IsStr v xs) (hx : StrAt W x l) (hn : xs.length + l.length ≤ 1000000) (hbase : base ≤ W.heap.size)
    (hq : ∀ v' w', OwnP w' base 9 IsStr v' (xs ++ l.map .string) → Below base W w' → (∀ g, StrB W g → StrB w' g) → GD Tryz.prog true AtRel DLd Stop n 0 (G (b₀.at (a₀.put o.dst v') (.inRegion ops rest :: k)) cs) w') :
    GD Tryz.prog true AtRel DLd Stop (n + 1) 0 (G (b₀.at a₀ (.inRegion ops (i :: rest) :: k)) cs) W := by
  refine gd_op ho hw hk (fun w₁ h₁ K hK => ?_)
  obtain ⟨d, rfl⟩ := h₁
  obtain ⟨v', w', hr, h2, h3, h4⟩ := run_append_txt (W.at d) o.type (base := base) (v := v) (x := x) (xs := xs) (l := l) hown hx hn hbase
  refine uponK_append s y 22 hop hs hy hr ?_
  have hD : DLd 0 (W.at d) w' (listed Tryz.prog b₀.fn a₀ o (W.at d)) := by
    refine ⟨fun e he => ?_, h3.size, h3.tape⟩
    have hm := mem_listed he
    rw [events_append_op s y 22 hop hs hy] at hm
    rcases h4 e hm with ⟨ad, wr, sy, rfl, hlt⟩ | rfl
    · exact ⟨fun _ _ h => h.elim, by simp, by simp, Nat.lt_of_lt_of_le hlt h3.size⟩
    · exact ⟨fun _ _ h => h.elim, by simp, by simp, trivial⟩
  refine hK _ _ hD (dld_deaf hD) (hq v' w' h2 ?_ fun g hg => append_strs (w := W.at d) hown hx hn hbase hr hg)
  exact below_at (Below.refl _ W) d |>.trans ⟨h3.os, h3.tape, h3.output, h3.size, fun k hk => h3.block k (Nat.lt_of_lt_of_le hk hbase) fun e => by have := (hown.lt k e.symm).1; omega⟩ |> fun h => ⟨h.os, h.tape, h.output, h.size, h.block⟩
section
variable {W : World} {a b : Value} {La Lb : List ByteArray} {nu : Int} {A A2 : Option Addr} {c c2 : Nat}
set_option maxHeartbeats 16000000 in
theorem begin5_long (hA : a = .slice A La.length c) (hA2 : b = .slice A2 Lb.length c2) (hl : 600 < IntKind.i64.wrap (IntKind.i64.wrap (longL La : Nat) + IntKind.i64.wrap (longL Lb : Nat))) (hG : GlobOk W) (hKa : StrAt W a La) (hKb : StrAt W b Lb) :
    BW Tryz.prog (DX fun _ => False) (fun gg w2 => ∃ fr, gg = G fr [] ∧ LeaveT 5 6 fr (.bool true) ∧ GW W w2 none) (G ((base 5).at ⟨#[a, b, .int .u8 nu, undef, undef, undef, undef, undef, undef, undef, undef, undef, undef, undef, undef, undef, undef, undef, undef, undef, undef, undef, undef, undef, undef, undef, undef, undef, undef, undef, undef, undef, undef, undef, undef, undef, undef, undef, undef, undef, undef, undef, undef, undef, undef, undef, undef, undef, undef, undef, undef, undef, undef, undef, undef, undef, undef, undef, undef, undef, undef, undef, undef, undef, undef, undef, undef, undef, undef, undef, undef, undef, undef, undef, undef, undef, undef, undef, undef, undef, undef, undef, undef, undef, undef, undef, undef, undef, undef], []⟩ [.code body5]) []) W := by
  have T := tG
  have hL := fun (base0 : List Frame) (d : Nat) => long_bw (Shun := fun _ => False) (w := W.at d) hKa ⟨hG.two, hG.cl, hG.txt⟩ (fun l h => h.elim) base0
  have hL2 := fun (base0 : List Frame) (d : Nat) => long_bw (Shun := fun _ => False) (w := W.at d) hKb ⟨hG.two, hG.cl, hG.txt⟩ (fun l h => h.elim) base0
  generalize hla : IntKind.i64.wrap (longL La : Nat) = la at *
  generalize hlb : IntKind.i64.wrap (longL Lb : Nat) = lb at *
  generalize hls : IntKind.i64.wrap (la + lb) = ls at *
  have h3 : ((600 : Int) < ls) = True := by simpa using hl
  subst hA hA2
  simp only [Tryz.f6, Option.getD_some] at hL hL2
  simp only [body5,  Tryz.f5, Option.getD_some]
  refine bw_gd (n := 100) (fun _ _ _ h => dx_of_dg h) ?_
  with_reducible refine gd_c T (G_running _ _) (fun _ => stepG_seq) ?_
  ((with_reducible refine gd_c T (G_running _ _) (fun _ => stepG_region) ?_); simp only [List.size_toArray, List.length_cons, List.length_nil, Nat.reduceAdd, Nat.zero_add, List.range, List.range.loop])
  (co_applyP gd_val T rfl rfl (by k_ne) ?_ ?_ ?_; (focus (intro _ K hK; go_simp; (try w_num); exact hK)); (focus (intro _; simp [go_sem, *]; done)); (try walk_nrm))
  with_reducible refine gd_c T (G_running _ _) (fun _ => stepG_region_end) ?_
  with_reducible refine gd_c T (G_running _ _) (fun _ => stepG_seq) ?_
  with_reducible refine gd_c T (G_running _ _) (fun _ => stepG_seq) ?_
  ((with_reducible refine gd_c T (G_running _ _) (fun _ => stepG_region) ?_); simp only [List.size_toArray, List.length_cons, List.length_nil, Nat.reduceAdd, Nat.zero_add, List.range, List.range.loop])
  (co_applyP gd_val T rfl rfl (by k_ne) ?_ ?_ ?_; (focus (intro _ K hK; go_simp; (try w_num); exact hK)); (focus (intro _; simp [go_sem, *]; done)); (try walk_nrm))
  (refine gd_call T rfl rfl (by k_ne) rfl Tryz.func6 cn6 rfl ?_; walk_nrmf Tryz.f6)
  refine GD.stop fun w₁ h₁ => ?_
  obtain ⟨d1, rfl⟩ := h₁
  refine bw_bind (bw_weaken (fun _ _ _ h => dx_of_dl0 h.2.2) (fun _ _ h => h) (hL _ d1)) ?_
  rintro gg w2 ⟨fr, d2, rfl, hlv, rfl⟩
  refine bw_step (fun w => ⟨fun e he => by simp at he, rfl⟩) rfl (fun w => leaveT_step Tryz.func6 rfl hlv true _ _ w) (fun d => ?_)
  rw [Frame.finish_at]
  walk_nrm
  refine bw_gd (n := 100) (fun _ _ _ h => dx_of_dg h) ?_
  (co_applyP gd_val T rfl rfl (by k_ne) ?_ ?_ ?_; (focus (intro _ K hK; go_simp; (try w_num); exact hK)); (focus (intro _; simp [go_sem, *]; done)); (try walk_nrm))
  (refine gd_call T rfl rfl (by k_ne) rfl Tryz.func6 cn6 rfl ?_; walk_nrmf Tryz.f6)
  refine GD.stop fun w₁ h₁ => ?_
  obtain ⟨d1', rfl⟩ := h₁
  refine bw_bind (bw_weaken (fun _ _ _ h => dx_of_dl0 h.2.2) (fun _ _ h => h) (hL2 _ d1')) ?_
  rintro gg w2 ⟨fr, d2', rfl, hlv, rfl⟩
  refine bw_step (fun w => ⟨fun e he => by simp at he, rfl⟩) rfl (fun w => leaveT_step Tryz.func6 rfl hlv true _ _ w) (fun d' => ?_)
  rw [Frame.finish_at]
  walk_nrm
  refine bw_gd (n := 100) (fun _ _ _ h => dx_of_dg h) ?_
  (co_applyP gd_val T rfl rfl (by k_ne) ?_ ?_ ?_; (focus (intro _ K hK; go_simp; (try w_num); exact hK)); (focus (intro _; simp [go_sem, *]; done)); (try walk_nrm))
  (co_applyP gd_val T rfl rfl (by k_ne) ?_ ?_ ?_; (focus (intro _ K hK; go_simp; (try w_num); exact hK)); (focus (intro _; simp [go_sem, *]; done)); (try walk_nrm))
  (co_applyP gd_val T rfl rfl (by k_ne) ?_ ?_ ?_; (focus (intro _ K hK; go_simp; (try w_num); exact hK)); (focus (intro _; simp [go_sem, *]; done)); (try walk_nrm))
  (refine gd_c T rfl (fun _ => stepG_unwanted rfl rfl) ?_; (try walk_nrm))
  (refine gd_c T rfl (fun _ => stepG_unwanted rfl rfl) ?_; (try walk_nrm))
  (refine gd_c T rfl (fun _ => stepG_unwanted rfl rfl) ?_; (try walk_nrm))
  (refine gd_c T rfl (fun _ => stepG_unwanted rfl rfl) ?_; (try walk_nrm))
  (refine gd_c T rfl (fun _ => stepG_unwanted rfl rfl) ?_; (try walk_nrm))
  (refine gd_c T rfl (fun _ => stepG_unwanted rfl rfl) ?_; (try walk_nrm))
  (co_applyP gd_val T rfl rfl (by k_ne) ?_ ?_ ?_; (focus (intro _ K hK; go_simp; (try w_num); exact hK)); (focus (intro _; simp [go_sem, *]; done)); (try walk_nrm))
  with_reducible refine gd_c T (G_running _ _) (fun _ => stepG_region_end) ?_
  (refine gd_c T rfl (fun _ => stepG_cond (t := true) rfl) ?_; simp only [if_true, if_false, Bool.false_eq_true, ↓reduceIte])
  with_reducible refine gd_c T (G_running _ _) (fun _ => stepG_seq) ?_
  ((with_reducible refine gd_c T (G_running _ _) (fun _ => stepG_region) ?_); simp only [List.size_toArray, List.length_cons, List.length_nil, Nat.reduceAdd, Nat.zero_add, List.range, List.range.loop])
  (refine gd_call T rfl rfl (by k_ne) rfl Tryz.func7 cn7 rfl ?_; walk_nrmf Tryz.f7)
  refine GD.stop fun w₁ h₁ => ?_
  obtain ⟨d5, rfl⟩ := h₁
  have hb := known_bw (B := B0w W.heap.size) (K := KOf (.slice A La.length c) La) (w := W.at d5) (.inl rfl) (.inr (.inl rfl)) (cwk0 (w := W.at d5) ⟨hG.two, hG.cl, hG.txt⟩ hKa)
  simp only [Tryz.f7, Option.getD_some] at hb
  refine bw_bind (hb _) ?_
  rintro gg w2 ⟨fr, rfl, hlv, hgw⟩
  refine bw_step (fun w => ⟨fun e he => by simp at he, rfl⟩) rfl (fun w => leaveT_step Tryz.func7 rfl hlv true _ _ w) (fun d6 => ?_)
  rw [Frame.finish_at]
  walk_nrm
  refine bw_gd (n := 20) (fun _ _ _ h => dx_of_dg h) ?_
  (co_applyP gd_val T rfl rfl (by k_ne) ?_ ?_ ?_; (focus (intro _ K hK; go_simp; (try w_num); exact hK)); (focus (intro _; simp [go_sem, *]; done)); (try walk_nrm))
  with_reducible refine gd_c T (G_running _ _) (fun _ => stepG_region_end) ?_
  with_reducible refine gd_c T (G_running _ _) (fun _ => stepG_ret') ?_
  refine GD.stop fun w₁ h₁ => ?_
  obtain ⟨d7, rfl⟩ := h₁
  exact .stop fun d => ⟨_, rfl, ⟨rfl, rfl, rfl, rfl, rfl⟩, hgw.os, hgw.output, hgw.size, hgw.block⟩
set_option maxHeartbeats 16000000 in
theorem begin5_many (hA : a = .slice A La.length c) (hA2 : b = .slice A2 Lb.length c2) (hl : ¬ 600 < IntKind.i64.wrap (IntKind.i64.wrap (longL La : Nat) + IntKind.i64.wrap (longL Lb : Nat))) (hm : 60 < La.length + Lb.length) (hma : La.length ≤ 140737488355328) (hmb : Lb.length ≤ 140737488355328) (hG : GlobOk W) (hKa : StrAt W a La) (hKb : StrAt W b Lb) :
    BW Tryz.prog (DX fun _ => False) (fun gg w2 => ∃ fr, gg = G fr [] ∧ LeaveT 5 6 fr (.bool true) ∧ GW W w2 none) (G ((base 5).at ⟨#[a, b, .int .u8 nu, undef, undef, undef, undef, undef, undef, undef, undef, undef, undef, undef, undef, undef, undef, undef, undef, undef, undef, undef, undef, undef, undef, undef, undef, undef, undef, undef, undef, undef, undef, undef, undef, undef, undef, undef, undef, undef, undef, undef, undef, undef, undef, undef, undef, undef, undef, undef, undef, undef, undef, undef, undef, undef, undef, undef, undef, undef, undef, undef, undef, undef, undef, undef, undef, undef, undef, undef, undef, undef, undef, undef, undef, undef, undef, undef, undef, undef, undef, undef, undef, undef, undef, undef, undef, undef, undef], []⟩ [.code body5]) []) W := by
  have hns : IntKind.i64.wrap ((La.length : Int) + (Lb.length : Int)) = (La.length : Int) + (Lb.length : Int) := by rw [IntKind.wrap_i64]; omega
  have h4 : ((60 : Int) < (La.length : Int) + (Lb.length : Int)) = True := by simp; omega
  have T := tG
  have hL := fun (base0 : List Frame) (d : Nat) => long_bw (Shun := fun _ => False) (w := W.at d) hKa ⟨hG.two, hG.cl, hG.txt⟩ (fun l h => h.elim) base0
  have hL2 := fun (base0 : List Frame) (d : Nat) => long_bw (Shun := fun _ => False) (w := W.at d) hKb ⟨hG.two, hG.cl, hG.txt⟩ (fun l h => h.elim) base0
  generalize hla : IntKind.i64.wrap (longL La : Nat) = la at *
  generalize hlb : IntKind.i64.wrap (longL Lb : Nat) = lb at *
  generalize hls : IntKind.i64.wrap (la + lb) = ls at *
  have h3 : ((600 : Int) < ls) = False := by simpa using hl
  subst hA hA2
  simp only [Tryz.f6, Option.getD_some] at hL hL2
  simp only [body5,  Tryz.f5, Option.getD_some]
  refine bw_gd (n := 100) (fun _ _ _ h => dx_of_dg h) ?_
  with_reducible refine gd_c T (G_running _ _) (fun _ => stepG_seq) ?_
  ((with_reducible refine gd_c T (G_running _ _) (fun _ => stepG_region) ?_); simp only [List.size_toArray, List.length_cons, List.length_nil, Nat.reduceAdd, Nat.zero_add, List.range, List.range.loop])
  (co_applyP gd_val T rfl rfl (by k_ne) ?_ ?_ ?_; (focus (intro _ K hK; go_simp; (try w_num); exact hK)); (focus (intro _; simp [go_sem, *]; done)); (try walk_nrm))
  with_reducible refine gd_c T (G_running _ _) (fun _ => stepG_region_end) ?_
  with_reducible refine gd_c T (G_running _ _) (fun _ => stepG_seq) ?_
  with_reducible refine gd_c T (G_running _ _) (fun _ => stepG_seq) ?_
  ((with_reducible refine gd_c T (G_running _ _) (fun _ => stepG_region) ?_); simp only [List.size_toArray, List.length_cons, List.length_nil, Nat.reduceAdd, Nat.zero_add, List.range, List.range.loop])
  (co_applyP gd_val T rfl rfl (by k_ne) ?_ ?_ ?_; (focus (intro _ K hK; go_simp; (try w_num); exact hK)); (focus (intro _; simp [go_sem, *]; done)); (try walk_nrm))
  (refine gd_call T rfl rfl (by k_ne) rfl Tryz.func6 cn6 rfl ?_; walk_nrmf Tryz.f6)
  refine GD.stop fun w₁ h₁ => ?_
  obtain ⟨d1, rfl⟩ := h₁
  refine bw_bind (bw_weaken (fun _ _ _ h => dx_of_dl0 h.2.2) (fun _ _ h => h) (hL _ d1)) ?_
  rintro gg w2 ⟨fr, d2, rfl, hlv, rfl⟩
  refine bw_step (fun w => ⟨fun e he => by simp at he, rfl⟩) rfl (fun w => leaveT_step Tryz.func6 rfl hlv true _ _ w) (fun d => ?_)
  rw [Frame.finish_at]
  walk_nrm
  refine bw_gd (n := 100) (fun _ _ _ h => dx_of_dg h) ?_
  (co_applyP gd_val T rfl rfl (by k_ne) ?_ ?_ ?_; (focus (intro _ K hK; go_simp; (try w_num); exact hK)); (focus (intro _; simp [go_sem, *]; done)); (try walk_nrm))
  (refine gd_call T rfl rfl (by k_ne) rfl Tryz.func6 cn6 rfl ?_; walk_nrmf Tryz.f6)
  refine GD.stop fun w₁ h₁ => ?_
  obtain ⟨d1', rfl⟩ := h₁
  refine bw_bind (bw_weaken (fun _ _ _ h => dx_of_dl0 h.2.2) (fun _ _ h => h) (hL2 _ d1')) ?_
  rintro gg w2 ⟨fr, d2', rfl, hlv, rfl⟩
  refine bw_step (fun w => ⟨fun e he => by simp at he, rfl⟩) rfl (fun w => leaveT_step Tryz.func6 rfl hlv true _ _ w) (fun d' => ?_)
  rw [Frame.finish_at]
  walk_nrm
  refine bw_gd (n := 100) (fun _ _ _ h => dx_of_dg h) ?_
  (co_applyP gd_val T rfl rfl (by k_ne) ?_ ?_ ?_; (focus (intro _ K hK; go_simp; (try w_num); exact hK)); (focus (intro _; simp [go_sem, *]; done)); (try walk_nrm))
  (co_applyP gd_val T rfl rfl (by k_ne) ?_ ?_ ?_; (focus (intro _ K hK; go_simp; (try w_num); exact hK)); (focus (intro _; simp [go_sem, *]; done)); (try walk_nrm))
  (co_applyP gd_val T rfl rfl (by k_ne) ?_ ?_ ?_; (focus (intro _ K hK; go_simp; (try w_num); exact hK)); (focus (intro _; simp [go_sem, *]; done)); (try walk_nrm))
  (co_applyP gd_val T rfl rfl (by k_ne) ?_ ?_ ?_; (focus (intro _ K hK; go_simp; (try w_num); exact hK)); (focus (intro _; simp [go_sem, *]; done)); (try walk_nrm))
  (co_applyP gd_val T rfl rfl (by k_ne) ?_ ?_ ?_; (focus (intro _ K hK; go_simp; (try w_num); exact hK)); (focus (intro _; simp [go_sem, *]; done)); (try walk_nrm))
  (co_applyP gd_val T rfl rfl (by k_ne) ?_ ?_ ?_; (focus (intro _ K hK; go_simp; (try w_num); exact hK)); (focus (intro _; simp [go_sem, *]; done)); (try walk_nrm))
  (co_applyP gd_val T rfl rfl (by k_ne) ?_ ?_ ?_; (focus (intro _ K hK; go_simp; (try w_num); exact hK)); (focus (intro _; simp [go_sem, *]; done)); (try walk_nrm))
  (co_applyP gd_val T rfl rfl (by k_ne) ?_ ?_ ?_; (focus (intro _ K hK; go_simp; (try w_num); exact hK)); (focus (intro _; simp [go_sem, *]; done)); (try walk_nrm))
  (co_applyP gd_val T rfl rfl (by k_ne) ?_ ?_ ?_; (focus (intro _ K hK; go_simp; (try w_num); exact hK)); (focus (intro _; simp [go_sem, *]; done)); (try walk_nrm))
  (co_applyP gd_val T rfl rfl (by k_ne) ?_ ?_ ?_; (focus (intro _ K hK; go_simp; (try w_num); exact hK)); (focus (intro _; simp [go_sem, *]; done)); (try walk_nrm))
  with_reducible refine gd_c T (G_running _ _) (fun _ => stepG_region_end) ?_
  (refine gd_c T rfl (fun _ => stepG_cond (t := true) rfl) ?_; simp only [if_true, if_false, Bool.false_eq_true, ↓reduceIte])
  with_reducible refine gd_c T (G_running _ _) (fun _ => stepG_seq) ?_
  ((with_reducible refine gd_c T (G_running _ _) (fun _ => stepG_region) ?_); simp only [List.size_toArray, List.length_cons, List.length_nil, Nat.reduceAdd, Nat.zero_add, List.range, List.range.loop])
  (refine gd_call T rfl rfl (by k_ne) rfl Tryz.func7 cn7 rfl ?_; walk_nrmf Tryz.f7)
  refine GD.stop fun w₁ h₁ => ?_
  obtain ⟨d5, rfl⟩ := h₁
  have hb := known_bw (B := B0w W.heap.size) (K := KOf (.slice A La.length c) La) (w := W.at d5) (.inl rfl) (.inr (.inl rfl)) (cwk0 (w := W.at d5) ⟨hG.two, hG.cl, hG.txt⟩ hKa)
  simp only [Tryz.f7, Option.getD_some] at hb
  refine bw_bind (hb _) ?_
  rintro gg w2 ⟨fr, rfl, hlv, hgw⟩
  refine bw_step (fun w => ⟨fun e he => by simp at he, rfl⟩) rfl (fun w => leaveT_step Tryz.func7 rfl hlv true _ _ w) (fun d6 => ?_)
  rw [Frame.finish_at]
  walk_nrm
  refine bw_gd (n := 20) (fun _ _ _ h => dx_of_dg h) ?_
  (co_applyP gd_val T rfl rfl (by k_ne) ?_ ?_ ?_; (focus (intro _ K hK; go_simp; (try w_num); exact hK)); (focus (intro _; simp [go_sem, *]; done)); (try walk_nrm))
  with_reducible refine gd_c T (G_running _ _) (fun _ => stepG_region_end) ?_
  with_reducible refine gd_c T (G_running _ _) (fun _ => stepG_ret') ?_
  refine GD.stop fun w₁ h₁ => ?_
  obtain ⟨d7, rfl⟩ := h₁
  exact .stop fun d => ⟨_, rfl, ⟨rfl, rfl, rfl, rfl, rfl⟩, hgw.os, hgw.output, hgw.size, hgw.block⟩
/-- What stands at the first call of Spread. -/
def Go5 (W : World) (a b : Value) (La Lb : List ByteArray) (nu k la lb ls na nb ns r r2 : Int) (gg : Goroutine) (w2 : World) : Prop := ∃ v1 al, (v1 = .slice none 0 0 ∨ ∃ g n cap, v1 = .slice (some ⟨g, 0, none⟩) n cap ∧ W.heap.size ≤ g ∧ StrB w2 g) ∧ Below W.heap.size W w2 ∧ OwnP w2 W.heap.size 9 IsStr al ((La ++ Lb).map .string) ∧
  gg = G ((base 9).at ⟨#[a, .int .i64 k, undef, undef, undef, undef, undef, undef, undef, undef, undef, undef, undef, undef, undef, undef, undef, undef, undef, undef, undef, undef, undef, undef, undef, undef, undef, undef, undef, undef, undef, undef, undef, undef, undef], []⟩ [.code (Tryz.f9.body.getD .skip)]) [(base 5).at ⟨T5 a b nu k la lb ls na nb ns r r2 v1 al undef undef a (.int .i64 k) undef undef undef undef undef undef undef, []⟩ [.inRegion ops57 [2, 3], .code rest57]]
set_option maxHeartbeats 16000000 in
theorem begin5_go (hA : a = .slice A La.length c) (hA2 : b = .slice A2 Lb.length c2) (hl : ¬ 600 < IntKind.i64.wrap (IntKind.i64.wrap (longL La : Nat) + IntKind.i64.wrap (longL Lb : Nat))) (hm : ¬ 60 < La.length + Lb.length) (hG : GlobOk W) (hKa : StrAt W a La) (hKb : StrAt W b Lb) (hu0 : 0 ≤ nu) (hu1 : nu < 256) :
    BW Tryz.prog (DL fun _ => False) (Go5 W a b La Lb nu (1 + nu % 64) (IntKind.i64.wrap (longL La : Nat)) (IntKind.i64.wrap (longL Lb : Nat)) (IntKind.i64.wrap (IntKind.i64.wrap (longL La : Nat) + IntKind.i64.wrap (longL Lb : Nat))) La.length Lb.length (La.length + Lb.length) (nu % 64) nu) (G ((base 5).at ⟨#[a, b, .int .u8 nu, undef, undef, undef, undef, undef, undef, undef, undef, undef, undef, undef, undef, undef, undef, undef, undef, undef, undef, undef, undef, undef, undef, undef, undef, undef, undef, undef, undef, undef, undef, undef, undef, undef, undef, undef, undef, undef, undef, undef, undef, undef, undef, undef, undef, undef, undef, undef, undef, undef, undef, undef, undef, undef, undef, undef, undef, undef, undef, undef, undef, undef, undef, undef, undef, undef, undef, undef, undef, undef, undef, undef, undef, undef, undef, undef, undef, undef, undef, undef, undef, undef, undef, undef, undef, undef, undef], []⟩ [.code body5]) []) W := by
  have hns : IntKind.i64.wrap ((La.length : Int) + (Lb.length : Int)) = (La.length : Int) + (Lb.length : Int) := by rw [IntKind.wrap_i64]; omega
  have h4 : ((60 : Int) < (La.length : Int) + (Lb.length : Int)) = False := by simp; omega
  have hw1 : IntKind.i64.wrap nu = nu := by rw [IntKind.wrap_i64]; omega
  have hw2 : nu.tmod 64 = nu % 64 := Int.tmod_eq_emod_of_nonneg hu0
  have hw3 : IntKind.i64.wrap (nu % 64) = nu % 64 := by rw [IntKind.wrap_i64]; omega
  have hw4 : IntKind.i64.wrap (1 + nu % 64) = 1 + nu % 64 := by rw [IntKind.wrap_i64]; omega
  have T := tLd
  have hL := fun (base0 : List Frame) (d : Nat) => long_bw (Shun := fun _ => False) (w := W.at d) hKa ⟨hG.two, hG.cl, hG.txt⟩ (fun l h => h.elim) base0
  have hL2 := fun (base0 : List Frame) (d : Nat) => long_bw (Shun := fun _ => False) (w := W.at d) hKb ⟨hG.two, hG.cl, hG.txt⟩ (fun l h => h.elim) base0
  generalize hla : IntKind.i64.wrap (longL La : Nat) = la at *
  generalize hlb : IntKind.i64.wrap (longL Lb : Nat) = lb at *
  generalize hls : IntKind.i64.wrap (la + lb) = ls at *
  have h3 : ((600 : Int) < ls) = False := by simpa using hl
  subst hA hA2
  simp only [Tryz.f6, Option.getD_some] at hL hL2
  simp only [body5, rest57, ops57, from5, Tryz.f5, Option.getD_some]
  refine bw_gdL (n := 200) ?_
  with_reducible refine gd_c T (G_running _ _) (fun _ => stepG_seq) ?_
  ((with_reducible refine gd_c T (G_running _ _) (fun _ => stepG_region) ?_); simp only [List.size_toArray, List.length_cons, List.length_nil, Nat.reduceAdd, Nat.zero_add, List.range, List.range.loop])
  (co_applyP gd_val T rfl rfl (by k_ne) ?_ ?_ ?_; (focus (intro _ K hK; go_simp; (try w_num); exact hK)); (focus (intro _; simp [go_sem, *]; done)); (try walk_nrm))
  with_reducible refine gd_c T (G_running _ _) (fun _ => stepG_region_end) ?_
  with_reducible refine gd_c T (G_running _ _) (fun _ => stepG_seq) ?_
  with_reducible refine gd_c T (G_running _ _) (fun _ => stepG_seq) ?_
  ((with_reducible refine gd_c T (G_running _ _) (fun _ => stepG_region) ?_); simp only [List.size_toArray, List.length_cons, List.length_nil, Nat.reduceAdd, Nat.zero_add, List.range, List.range.loop])
  (co_applyP gd_val T rfl rfl (by k_ne) ?_ ?_ ?_; (focus (intro _ K hK; go_simp; (try w_num); exact hK)); (focus (intro _; simp [go_sem, *]; done)); (try walk_nrm))
  (refine gd_call T rfl rfl (by k_ne) rfl Tryz.func6 cn6 rfl ?_; walk_nrmf Tryz.f6)
  refine GD.stop fun w₁ h₁ => ?_
  obtain ⟨d1, rfl⟩ := h₁
  refine bw_bind (bw_weaken (fun _ _ _ h => h) (fun _ _ h => h) (hL _ d1)) ?_
  rintro gg w2 ⟨fr, d2, rfl, hlv, rfl⟩
  refine bw_step (fun w => ⟨fun e he => by simp at he, Nat.le_refl _, rfl⟩) rfl (fun w => leaveT_step Tryz.func6 rfl hlv true _ _ w) (fun d => ?_)
  rw [Frame.finish_at]
  walk_nrm
  refine bw_gdL (n := 200) ?_
  (co_applyP gd_val T rfl rfl (by k_ne) ?_ ?_ ?_; (focus (intro _ K hK; go_simp; (try w_num); exact hK)); (focus (intro _; simp [go_sem, *]; done)); (try walk_nrm))
  (refine gd_call T rfl rfl (by k_ne) rfl Tryz.func6 cn6 rfl ?_; walk_nrmf Tryz.f6)
  refine GD.stop fun w₁ h₁ => ?_
  obtain ⟨d1', rfl⟩ := h₁
  refine bw_bind (bw_weaken (fun _ _ _ h => h) (fun _ _ h => h) (hL2 _ d1')) ?_
  rintro gg w2 ⟨fr, d2', rfl, hlv, rfl⟩
  refine bw_step (fun w => ⟨fun e he => by simp at he, Nat.le_refl _, rfl⟩) rfl (fun w => leaveT_step Tryz.func6 rfl hlv true _ _ w) (fun d' => ?_)
  rw [Frame.finish_at]
  walk_nrm
  refine bw_gdL (n := 200) ?_
  (co_applyP gd_val T rfl rfl (by k_ne) ?_ ?_ ?_; (focus (intro _ K hK; go_simp; (try w_num); exact hK)); (focus (intro _; simp [go_sem, *]; done)); (try walk_nrm))
  (co_applyP gd_val T rfl rfl (by k_ne) ?_ ?_ ?_; (focus (intro _ K hK; go_simp; (try w_num); exact hK)); (focus (intro _; simp [go_sem, *]; done)); (try walk_nrm))
  (co_applyP gd_val T rfl rfl (by k_ne) ?_ ?_ ?_; (focus (intro _ K hK; go_simp; (try w_num); exact hK)); (focus (intro _; simp [go_sem, *]; done)); (try walk_nrm))
  (co_applyP gd_val T rfl rfl (by k_ne) ?_ ?_ ?_; (focus (intro _ K hK; go_simp; (try w_num); exact hK)); (focus (intro _; simp [go_sem, *]; done)); (try walk_nrm))
  (co_applyP gd_val T rfl rfl (by k_ne) ?_ ?_ ?_; (focus (intro _ K hK; go_simp; (try w_num); exact hK)); (focus (intro _; simp [go_sem, *]; done)); (try walk_nrm))
  (co_applyP gd_val T rfl rfl (by k_ne) ?_ ?_ ?_; (focus (intro _ K hK; go_simp; (try w_num); exact hK)); (focus (intro _; simp [go_sem, *]; done)); (try walk_nrm))
  (co_applyP gd_val T rfl rfl (by k_ne) ?_ ?_ ?_; (focus (intro _ K hK; go_simp; (try w_num); exact hK)); (focus (intro _; simp [go_sem, *]; done)); (try walk_nrm))
  (co_applyP gd_val T rfl rfl (by k_ne) ?_ ?_ ?_; (focus (intro _ K hK; go_simp; (try w_num); exact hK)); (focus (intro _; simp [go_sem, *]; done)); (try walk_nrm))
  (co_applyP gd_val T rfl rfl (by k_ne) ?_ ?_ ?_; (focus (intro _ K hK; go_simp; (try w_num); exact hK)); (focus (intro _; simp [go_sem, *]; done)); (try walk_nrm))
  (co_applyP gd_val T rfl rfl (by k_ne) ?_ ?_ ?_; (focus (intro _ K hK; go_simp; (try w_num); exact hK)); (focus (intro _; simp [go_sem, *]; done)); (try walk_nrm))
  with_reducible refine gd_c T (G_running _ _) (fun _ => stepG_region_end) ?_
  (refine gd_c T rfl (fun _ => stepG_cond (t := false) rfl) ?_; simp only [if_true, if_false, Bool.false_eq_true, ↓reduceIte])
  with_reducible refine gd_c T (G_running _ _) (fun _ => stepG_skip) ?_
  with_reducible refine gd_c T (G_running _ _) (fun _ => stepG_seq) ?_
  ((with_reducible refine gd_c T (G_running _ _) (fun _ => stepG_region) ?_); simp only [List.size_toArray, List.length_cons, List.length_nil, Nat.reduceAdd, Nat.zero_add, List.range, List.range.loop])
  (co_applyP gd_val T rfl rfl (by k_ne) ?_ ?_ ?_; (focus (intro _ K hK; go_simp; (try w_num); exact hK)); (focus (intro _; simp [go_sem, *]; done)); (try walk_nrm))
  with_reducible refine gd_c T (G_running _ _) (fun _ => stepG_region_end) ?_
  with_reducible refine gd_c T (G_running _ _) (fun _ => stepG_seq) ?_
  ((with_reducible refine gd_c T (G_running _ _) (fun _ => stepG_region) ?_); simp only [List.size_toArray, List.length_cons, List.length_nil, Nat.reduceAdd, Nat.zero_add, List.range, List.range.loop])
  (co_applyP gd_val T rfl rfl (by k_ne) ?_ ?_ ?_; (focus (intro _ K hK; go_simp; (try w_num); exact hK)); (focus (intro _; simp [go_sem, *]; done)); (try walk_nrm))
  (co_applyP gd_val T rfl rfl (by k_ne) ?_ ?_ ?_; (focus (intro _ K hK; go_simp; (try w_num); exact hK)); (focus (intro _; simp [go_sem, *]; done)); (try walk_nrm))
  refine gd_append (W := W.at d') (v := .slice none 0 0) (x := .slice A La.length c) (base := W.heap.size) (xs := []) (l := La) (.tmp 29) (.tmp 30) rfl rfl rfl (by k_ne) rfl rfl ownP_nil hKa (by simp; omega) (Nat.le_refl _) (fun v5 w5 hown5 hb5 _ => ?_)
  have hb5' : Below W.heap.size W w5 := (below_at (Below.refl _ W) d').trans hb5
  have hKb5 : StrAt w5 (.slice A2 Lb.length c2) Lb := hKb.below hb5' (Nat.le_refl _)
  (try walk_nrm)
  (co_applyP gd_val T rfl rfl (by k_ne) ?_ ?_ ?_; (focus (intro _ K hK; go_simp; (try w_num); exact hK)); (focus (intro _; simp [go_sem, *]; done)); (try walk_nrm))
  with_reducible refine gd_c T (G_running _ _) (fun _ => stepG_region_end) ?_
  with_reducible refine gd_c T (G_running _ _) (fun _ => stepG_seq) ?_
  ((with_reducible refine gd_c T (G_running _ _) (fun _ => stepG_region) ?_); simp only [List.size_toArray, List.length_cons, List.length_nil, Nat.reduceAdd, Nat.zero_add, List.range, List.range.loop])
  (co_applyP gd_val T rfl rfl (by k_ne) ?_ ?_ ?_; (focus (intro _ K hK; go_simp; (try w_num); exact hK)); (focus (intro _; simp [go_sem, *]; done)); (try walk_nrm))
  (co_applyP gd_val T rfl rfl (by k_ne) ?_ ?_ ?_; (focus (intro _ K hK; go_simp; (try w_num); exact hK)); (focus (intro _; simp [go_sem, *]; done)); (try walk_nrm))
  refine gd_append (W := w5) (v := v5) (x := .slice A2 Lb.length c2) (base := W.heap.size) (xs := [] ++ La.map .string) (l := Lb) (.tmp 32) (.tmp 33) rfl rfl rfl (by k_ne) rfl rfl hown5 hKb5 (by simp; omega) hb5'.size (fun v6 w6 hown6 hb6 hst => ?_)
  have hb6' : Below W.heap.size W w6 := hb5'.trans hb6
  have hv5 : v5 = .slice none 0 0 ∨ ∃ g n cap, v5 = .slice (some ⟨g, 0, none⟩) n cap ∧ W.heap.size ≤ g ∧ StrB w6 g := by
    rcases hown5.strB with h | ⟨g, n, cap, h1, h2, h3⟩
    · exact .inl h
    · exact .inr ⟨g, n, cap, h1, h2, hst g h3⟩
  rw [List.nil_append, ← List.map_append] at hown6
  (try walk_nrm)
  (co_applyP gd_val T rfl rfl (by k_ne) ?_ ?_ ?_; (focus (intro _ K hK; go_simp; (try w_num); exact hK)); (focus (intro _; simp [go_sem, *]; done)); (try walk_nrm))
  with_reducible refine gd_c T (G_running _ _) (fun _ => stepG_region_end) ?_
  with_reducible refine gd_c T (G_running _ _) (fun _ => stepG_seq) ?_
  ((with_reducible refine gd_c T (G_running _ _) (fun _ => stepG_region) ?_); simp only [List.size_toArray, List.length_cons, List.length_nil, Nat.reduceAdd, Nat.zero_add, List.range, List.range.loop])
  (co_applyP gd_val T rfl rfl (by k_ne) ?_ ?_ ?_; (focus (intro _ K hK; go_simp; (try w_num); exact hK)); (focus (intro _; simp [go_sem, *]; done)); (try walk_nrm))
  (co_applyP gd_val T rfl rfl (by k_ne) ?_ ?_ ?_; (focus (intro _ K hK; go_simp; (try w_num); exact hK)); (focus (intro _; simp [go_sem, *]; done)); (try walk_nrm))
  (co_applyP gd_val T rfl rfl (by k_ne) ?_ ?_ ?_; (focus (intro _ K hK; go_simp; (try w_num); exact hK)); (focus (intro _; simp [go_sem, *]; done)); (try walk_nrm))
  (co_applyP gd_val T rfl rfl (by k_ne) ?_ ?_ ?_; (focus (intro _ K hK; go_simp; (try w_num); exact hK)); (focus (intro _; simp [go_sem, *]; done)); (try walk_nrm))
  (co_applyP gd_val T rfl rfl (by k_ne) ?_ ?_ ?_; (focus (intro _ K hK; go_simp; (try w_num); exact hK)); (focus (intro _; simp [go_sem, *]; done)); (try walk_nrm))
  with_reducible refine gd_c T (G_running _ _) (fun _ => stepG_region_end) ?_
  with_reducible refine gd_c T (G_running _ _) (fun _ => stepG_seq) ?_
  ((with_reducible refine gd_c T (G_running _ _) (fun _ => stepG_region) ?_); simp only [List.size_toArray, List.length_cons, List.length_nil, Nat.reduceAdd, Nat.zero_add, List.range, List.range.loop])
  (co_applyP gd_val T rfl rfl (by k_ne) ?_ ?_ ?_; (focus (intro _ K hK; go_simp; (try w_num); exact hK)); (focus (intro _; simp [go_sem, *]; done)); (try walk_nrm))
  (co_applyP gd_val T rfl rfl (by k_ne) ?_ ?_ ?_; (focus (intro _ K hK; go_simp; (try w_num); exact hK)); (focus (intro _; simp [go_sem, *]; done)); (try walk_nrm))
  (refine gd_call T rfl rfl (by k_ne) rfl Tryz.func9 cn9 rfl ?_; walk_nrmf Tryz.f9)
  refine GD.stop fun w₁ h₁ => ?_
  obtain ⟨d9, rfl⟩ := h₁
  exact .stop fun d => ⟨v5, v6, hv5, below_at hb6' _, hown6, rfl⟩
end
end Go.Proofs.YtacimedkchjfnaaGreat
end

section
/-! HashRows between its Spreads, in company. -/
namespace Go.Proofs.YtacimedkchjfnaaGreat
set_option linter.unusedSimpArgs false
set_option linter.unusedVariables false
set_option maxRecDepth 100000
open Go.Conc Go.RowKit
section
variable {W : World} {a b v1 al r1 r2v : Value} {nu k la lb ls na nb ns r r2 : Int} {Shun : Loc → Prop}
set_option maxHeartbeats 8000000 in
theorem mid5b : BW Tryz.prog (DL Shun) (fun gg w2 => (∃ d, w2 = W.at d) ∧ gg = G ((base 9).at ⟨#[b, .int .i64 k, undef, undef, undef, undef, undef, undef, undef, undef, undef, undef, undef, undef, undef, undef, undef, undef, undef, undef, undef, undef, undef, undef, undef, undef, undef, undef, undef, undef, undef, undef, undef, undef, undef], []⟩ [.code (Tryz.f9.body.getD .skip)])
      [(base 5).at ⟨T5 a b nu k la lb ls na nb ns r r2 v1 al r1 undef a (.int .i64 k) r1 b (.int .i64 k) undef undef undef undef, []⟩ [.inRegion ops58 [2, 3], .code rest58]])
    (G ((base 5).at ⟨T5 a b nu k la lb ls na nb ns r r2 v1 al undef undef a (.int .i64 k) r1 undef undef undef undef undef undef, []⟩ [.inRegion ops57 [3], .code rest57]) []) W := by
  have T := tG
  simp only [ops57, ops58, rest58, rest57, from5, body5, Tryz.f5, Option.getD_some, T5]
  refine bw_gd (n := 30) (fun _ _ _ h => dl_of_dg h) ?_
  (co_applyP gd_val T rfl rfl (by k_ne) ?_ ?_ ?_; (focus (intro _ K hK; go_simp; (try w_num); exact hK)); (focus (intro _; simp [go_sem, *]; done)); (try walk_nrm))
  with_reducible refine gd_c T (G_running _ _) (fun _ => stepG_region_end) ?_
  with_reducible refine gd_c T (G_running _ _) (fun _ => stepG_seq) ?_
  ((with_reducible refine gd_c T (G_running _ _) (fun _ => stepG_region) ?_); simp only [List.size_toArray, List.length_cons, List.length_nil, Nat.reduceAdd, Nat.zero_add, List.range, List.range.loop])
  (co_applyP gd_val T rfl rfl (by k_ne) ?_ ?_ ?_; (focus (intro _ K hK; go_simp; (try w_num); exact hK)); (focus (intro _; simp [go_sem, *]; done)); (try walk_nrm))
  (co_applyP gd_val T rfl rfl (by k_ne) ?_ ?_ ?_; (focus (intro _ K hK; go_simp; (try w_num); exact hK)); (focus (intro _; simp [go_sem, *]; done)); (try walk_nrm))
  (refine gd_call T rfl rfl (by k_ne) rfl Tryz.func9 cn9 rfl ?_; walk_nrmf Tryz.f9)
  refine GD.stop fun w₁ h₁ => ?_
  obtain ⟨d1, rfl⟩ := h₁
  exact .stop fun d => ⟨⟨d, rfl⟩, rfl⟩
set_option maxHeartbeats 8000000 in
theorem mid5c : BW Tryz.prog (DL Shun) (fun gg w2 => (∃ d, w2 = W.at d) ∧ gg = G ((base 9).at ⟨#[al, .int .i64 k, undef, undef, undef, undef, undef, undef, undef, undef, undef, undef, undef, undef, undef, undef, undef, undef, undef, undef, undef, undef, undef, undef, undef, undef, undef, undef, undef, undef, undef, undef, undef, undef, undef], []⟩ [.code (Tryz.f9.body.getD .skip)])
      [(base 5).at ⟨T5 a b nu k la lb ls na nb ns r r2 v1 al r1 r2v a (.int .i64 k) r1 b (.int .i64 k) r2v al (.int .i64 k) undef, []⟩ [.inRegion ops59 [2, 3], .code rest59]])
    (G ((base 5).at ⟨T5 a b nu k la lb ls na nb ns r r2 v1 al r1 undef a (.int .i64 k) r1 b (.int .i64 k) r2v undef undef undef, []⟩ [.inRegion ops58 [3], .code rest58]) []) W := by
  have T := tG
  simp only [ops58, ops59, rest59, rest58, rest57, from5, body5, Tryz.f5, Option.getD_some, T5]
  refine bw_gd (n := 30) (fun _ _ _ h => dl_of_dg h) ?_
  (co_applyP gd_val T rfl rfl (by k_ne) ?_ ?_ ?_; (focus (intro _ K hK; go_simp; (try w_num); exact hK)); (focus (intro _; simp [go_sem, *]; done)); (try walk_nrm))
  with_reducible refine gd_c T (G_running _ _) (fun _ => stepG_region_end) ?_
  with_reducible refine gd_c T (G_running _ _) (fun _ => stepG_seq) ?_
  ((with_reducible refine gd_c T (G_running _ _) (fun _ => stepG_region) ?_); simp only [List.size_toArray, List.length_cons, List.length_nil, Nat.reduceAdd, Nat.zero_add, List.range, List.range.loop])
  (co_applyP gd_val T rfl rfl (by k_ne) ?_ ?_ ?_; (focus (intro _ K hK; go_simp; (try w_num); exact hK)); (focus (intro _; simp [go_sem, *]; done)); (try walk_nrm))
  (co_applyP gd_val T rfl rfl (by k_ne) ?_ ?_ ?_; (focus (intro _ K hK; go_simp; (try w_num); exact hK)); (focus (intro _; simp [go_sem, *]; done)); (try walk_nrm))
  (refine gd_call T rfl rfl (by k_ne) rfl Tryz.func9 cn9 rfl ?_; walk_nrmf Tryz.f9)
  refine GD.stop fun w₁ h₁ => ?_
  obtain ⟨d1, rfl⟩ := h₁
  exact .stop fun d => ⟨⟨d, rfl⟩, rfl⟩
end
end Go.Proofs.YtacimedkchjfnaaGreat
end

section
/-! HashRows behind its Spreads, beside leavers, to its end. -/
namespace Go.Proofs.YtacimedkchjfnaaGreat
set_option linter.unusedSimpArgs false
set_option linter.unusedVariables false
set_option maxRecDepth 20000
open Go.Conc Go.RowKit
open Go.ConcN (sumTo upd)
theorem t59 : restB Tryz.prog LK NK 5 ops59 [3] = true := by kernel_rfl
theorem t5c : codeB Tryz.prog LK NK 5 rest59 = true := by kernel_rfl
section
variable {a b v1 al r1 r2v r3 : Value} {nu k la lb ls na nb ns r r2 : Int}
set_option maxHeartbeats 4000000 in
theorem slots5 {S : Sc} (ha : KV S a) (hb : KV S b) (h1 : Cl S v1) (h2 : Cl S al) (h3 : Cl S r1) (h4 : Cl S r2v) (h5 : Cl S r3) (hd : S.d = dK) :
    SlotsOk S 5 0 (T5 a b nu k la lb ls na nb ns r r2 v1 al r1 r2v a (.int .i64 k) r1 b (.int .i64 k) r2v al (.int .i64 k) r3).toList := by
  have A : ∀ k, dK 5 k = true → KV S a ∧ (S.d 5 k = false → Cl S a) := fun k h => slot_k ha (by rw [hd]; exact h)
  have B : ∀ k, dK 5 k = true → KV S b ∧ (S.d 5 k = false → Cl S b) := fun k h => slot_k hb (by rw [hd]; exact h)
  have u : ∀ k, KV S undef ∧ (S.d 5 k = false → Cl S undef) := fun k => slot_cl cl_undef
  have i : ∀ (x : Int) (ki : IntKind) k, KV S (.int ki x) ∧ (S.d 5 k = false → Cl S (.int ki x)) := fun x ki k => slot_cl (.int _ _)
  have o : ∀ (x : Bool) k, KV S (.bool x) ∧ (S.d 5 k = false → Cl S (.bool x)) := fun x k => slot_cl (.bool _)
  have c : ∀ {v : Value}, Cl S v → ∀ k, KV S v ∧ (S.d 5 k = false → Cl S v) := fun h k => slot_cl h
  exact ⟨A 0 (by decide), B 1 (by decide), i _ _ _, u _, u _, u _, o _ _, c h2 _, i _ _ _, c h3 _, c h4 _, u _, u _, u _, A 14 (by decide), i _ _ _, B 16 (by decide), i _ _ _, i _ _ _, o _ _, o _ _, A 21 (by decide), i _ _ _, B 23 (by decide), i _ _ _, i _ _ _, o _ _, o _ _, u _, slot_cl (.slice0 _ _), A 30 (by decide),
    c h1 _, c h1 _, B 33 (by decide), c h2 _, i _ _ _, i _ _ _, i _ _ _, i _ _ _, A 39 (by decide), i _ _ _, c h3 _, B 42 (by decide), i _ _ _, c h4 _, c h2 _, i _ _ _, c h5 _, slots_undef 41 48⟩
end
section
variable {w : World} {a b v1 al r1 r2v r3 : Value} {La Lb : List ByteArray} {nu la lb ls na nb ns r r2 : Int} {k : Nat} {gs : Array Goroutine} {sl : Option (Nat × Nat)} {t : Trace} {q : Nat → Nat} {Shun : Loc → Prop} {B : Nat → Prop}
/-- The cells of both arguments. -/
def K2 (a b : Value) (La Lb : List ByteArray) (x : Addr) : Prop := KOf a La x ∨ KOf b Lb x
set_option maxHeartbeats 4000000 in
theorem last5 (hkk : clipI k = k) (hN : La.length + Lb.length ≤ 1000000) (hKa : StrAt w a La) (hKb : StrAt w b Lb) (h0B : B 0) (h1B : B 1)
    (hcw : CWK (scOf B (K2 a b La Lb) false LK NK) w) (hv1 : Cl (scOf B (K2 a b La Lb) false LK NK) v1) (hal : Cl (scOf B (K2 a b La Lb) false LK NK) al)
    (hr1 : Cl (scOf B (K2 a b La Lb) false LK NK) r1) (hr2 : Cl (scOf B (K2 a b La Lb) false LK NK) r2v) (hr3 : Cl (scOf B (K2 a b La Lb) false LK NK) r3)
    (hR1 : RowsR w r1 (spreadRows La k)) (hR2 : RowsR w r2v (spreadRows Lb k)) (hR3 : RowsR w r3 (spreadRows (La ++ Lb) k))
    (hSh : ∀ l, Shun l → ∃ x : Addr, l = .cell x ∧ ¬ B x.block ∧ ¬ K2 a b La Lb x)
    (h0 : gs[0]? = some (G ((base 5).at ⟨T5 a b nu k la lb ls na nb ns r r2 v1 al r1 r2v a (.int .i64 k) r1 b (.int .i64 k) r2v al (.int .i64 k) r3, []⟩ [.inRegion ops59 [3], .code rest59]) []))
    (hL : Leavers Tryz.prog t gs q) (hP : PastE Shun t) :
    ∃ N last o wF t', runNT Tryz.prog (N + 1) (crowd gs w sl) t = (.ended o wF, t') ∧ runN Tryz.prog N (crowd gs w sl) = .next last ∧ step Tryz.prog last = .ended o wF ∧
      Go.Conc.Good Tryz.prog (fun v W' => v = .bool true ∧ GW w W' none ∧ W'.tape = w.tape) last o wF t' := by
  have X := prgC (B := B) (K := K2 a b La Lb) h0B h1B
  have hx : Inv (scOf B (K2 a b La Lb) false LK NK) Tryz.prog w.tape ⟨(base 5).at ⟨(T5 a b nu k la lb ls na nb ns r r2 v1 al r1 r2v a (.int .i64 k) r1 b (.int .i64 k) r2v al (.int .i64 k) r3).toList.toArray, []⟩ [.inRegion ops59 [3], .code rest59], [], w⟩ :=
    ⟨frOk_base (fun x hx => by
      simp only [List.mem_cons, List.not_mem_nil, or_false] at hx
      rcases hx with rfl | rfl
      · exact item_region h0B t59
      · exact item_code h0B t5c) (slots5 (kv_of hKa fun a h => .inl h) (kv_of hKb fun a h => .inr h) hv1 hal hr1 hr2 hr3 rfl) ⟨_, Tryz.func5⟩, by simp, hcw, rfl⟩
  refine dx_end (f := 5) (Q := fun w2 => GW w w2 none) Tryz.func5 rfl (by kernel_rfl) (fun w d h => h.at d) (bw_weaken (D := DIn (scOf B (K2 a b La Lb) false LK NK)) (fun _ _ _ h => dx_of hSh h) (fun _ _ h => h)
    (lift (x := ⟨(base 5).at ⟨(T5 a b nu k la lb ls na nb ns r r2 v1 al r1 r2v a (.int .i64 k) r1 b (.int .i64 k) r2v al (.int .i64 k) r3).toList.toArray, []⟩ [.inRegion ops59 [3], .code rest59], [], w⟩) X (base := []) hx (Fin := fun fr wz => LeaveT 5 6 fr (.bool true) ∧ GW w wz none) ?_ ?_)) h0 hL hP
  · intro τ
    have rr : ∀ {v : Value} {F : List (List ByteArray)}, RowsR w v F → RowsR (re w τ 0) v F := fun h => h
    obtain ⟨v, wz, fr, ⟨rfl, hb⟩, hst, hfn, hlv⟩ := rest5 (w := re w τ 0) (a := a) (b := b) (v1 := v1) (al := al) (s39 := a) (s40 := .int .i64 k) (s41 := r1) (s42 := b) (s43 := .int .i64 k) (s44 := r2v) (s45 := al) (s46 := .int .i64 k) (nu := nu) (la := la) (lb := lb) (ls := ls) (na := na) (nb := nb) (ns := ns) (r := r) (r2 := r2) hkk hN (rr hR1) (rr hR2) (rr hR3) (base 5) [c0] rfl rfl rfl
    obtain ⟨N, hN⟩ := hst
    exact ⟨N, fr, wz, hN, leaveT_of Tryz.func5 rfl hfn hlv, ⟨hb.os, hb.output, hb.size, fun k hk _ => hb.block k hk⟩⟩
  · rintro fr wz τ d2 hf _ ⟨h1, h2⟩ d'
    exact ⟨fr, rfl, h1, h2.os, h2.output, h2.size, h2.block⟩
end
end Go.Proofs.YtacimedkchjfnaaGreat
end

section
/-! HashRows' run. -/
namespace Go.Proofs.YtacimedkchjfnaaGreat
set_option linter.unusedSimpArgs false
set_option linter.unusedVariables false
set_option maxRecDepth 20000
open Go.Conc Go.RowKit
open Go.ConcN (sumTo upd)
theorem cl_own {S : Sc} {w : World} {base : Nat} {v : Value} {xs : List Value} (h : OwnP w base 9 IsStr v xs) (hb : ∀ g, base ≤ g → StrB w g → S.b g) : Cl S v := by
  rcases h.strB with rfl | ⟨g, n, cap, rfl, h1, h2⟩
  · exact .slice0 _ _
  · exact .slice _ _ _ (hb g h1 h2)
theorem strB_cl {S : Sc} {w : World} {g : Nat} (h : StrB w g) {o : Obj} (ho : w.heap[g]? = some o) : ClO S o := by
  obtain ⟨cur, f, h1, h2⟩ := h
  rw [h1] at ho
  cases ho
  refine .cells _ _ _ fun v hv => ?_
  obtain ⟨s, rfl⟩ := h2 v hv
  exact .string _
theorem rows_cl {S : Sc} {w : World} {base Ob m : Nat} {vs : List Value} {f : Nat → List ByteArray} (h : RowsAt w base Ob m vs f) (hb : ∀ g, base ≤ g → StrB w g → S.b g) : ClO S (.cells vs.toArray 22) := by
  refine .cells _ _ _ fun v hv => ?_
  obtain ⟨s, hs⟩ := List.mem_iff_getElem?.1 (List.mem_toArray.1 hv)
  exact cl_own (h.own s v hs) hb
theorem at_below {B : Nat} {w w' : World} {d : Nat} (h : Below B (w.at d) w') : Below B w w' := ⟨h.os, h.tape, h.output, h.size, h.block⟩
set_option maxHeartbeats 8000000 in
theorem the_run5 {W : World} {a b : Value} {La Lb : List ByteArray} {nu : Int} (hG : GlobOk W) (hKa : StrAt W a La) (hKb : StrAt W b Lb) (hsa : ∀ s ∈ La, s.size ≤ 140737488355328) (hsb : ∀ s ∈ Lb, s.size ≤ 140737488355328)
    (hma : La.length ≤ 140737488355328) (hmb : Lb.length ≤ 140737488355328) (hu0 : 0 ≤ nu) (hu1 : nu < 256) :
    ∃ N last o wF t', runNT Tryz.prog (N + 1) (solo (G (Frame.enter Tryz.prog 5 #[a, b, .int .u8 nu] .normal) []) W) #[] = (.ended o wF, t') ∧ runN Tryz.prog N (solo (G (Frame.enter Tryz.prog 5 #[a, b, .int .u8 nu] .normal) []) W) = .next last ∧
      step Tryz.prog last = .ended o wF ∧ Go.Conc.Good Tryz.prog (fun v W' => v = .bool true ∧ Below W.heap.size W W') last o wF t' := by
  have e : Frame.enter Tryz.prog 5 #[a, b, .int .u8 nu] .normal = (base 5).at ⟨#[a, b, .int .u8 nu, undef, undef, undef, undef, undef, undef, undef, undef, undef, undef, undef, undef, undef, undef, undef, undef, undef, undef, undef, undef, undef, undef, undef, undef, undef, undef, undef, undef, undef, undef, undef, undef, undef, undef, undef, undef, undef, undef, undef, undef, undef, undef, undef, undef, undef, undef, undef, undef, undef, undef, undef, undef, undef, undef, undef, undef, undef, undef, undef, undef, undef, undef, undef, undef, undef, undef, undef, undef, undef, undef, undef, undef, undef, undef, undef, undef, undef, undef, undef, undef, undef, undef, undef, undef, undef, undef], []⟩ [.code body5] := by
    simp [Frame.enter, Frame.at, Tryz.func5, base, body5, Tryz.f5]
  rw [e, solo_eq_crowd]
  clear e
  have hlv := leavers_one Tryz.prog (G ((base 5).at ⟨#[a, b, .int .u8 nu, undef, undef, undef, undef, undef, undef, undef, undef, undef, undef, undef, undef, undef, undef, undef, undef, undef, undef, undef, undef, undef, undef, undef, undef, undef, undef, undef, undef, undef, undef, undef, undef, undef, undef, undef, undef, undef, undef, undef, undef, undef, undef, undef, undef, undef, undef, undef, undef, undef, undef, undef, undef, undef, undef, undef, undef, undef, undef, undef, undef, undef, undef, undef, undef, undef, undef, undef, undef, undef, undef, undef, undef, undef, undef, undef, undef, undef, undef, undef, undef, undef, undef, undef, undef, undef, undef], []⟩ [.code body5]) [])
  have hA : ∃ A c, a = .slice A La.length c := by obtain ⟨A, c, h, _⟩ := hKa; exact ⟨A, c, h⟩
  have hA2 : ∃ A c, b = .slice A Lb.length c := by obtain ⟨A, c, h, _⟩ := hKb; exact ⟨A, c, h⟩
  obtain ⟨A, c, hA⟩ := hA
  obtain ⟨A2, c2, hA2⟩ := hA2
  have known : BW Tryz.prog (DX fun _ => False) (fun gg w2 => ∃ fr, gg = G fr [] ∧ LeaveT 5 6 fr (.bool true) ∧ GW W w2 none) (G ((base 5).at ⟨#[a, b, .int .u8 nu, undef, undef, undef, undef, undef, undef, undef, undef, undef, undef, undef, undef, undef, undef, undef, undef, undef, undef, undef, undef, undef, undef, undef, undef, undef, undef, undef, undef, undef, undef, undef, undef, undef, undef, undef, undef, undef, undef, undef, undef, undef, undef, undef, undef, undef, undef, undef, undef, undef, undef, undef, undef, undef, undef, undef, undef, undef, undef, undef, undef, undef, undef, undef, undef, undef, undef, undef, undef, undef, undef, undef, undef, undef, undef, undef, undef, undef, undef, undef, undef, undef, undef, undef, undef, undef, undef], []⟩ [.code body5]) []) W →
      ∃ N last o wF t', runNT Tryz.prog (N + 1) (crowd #[G ((base 5).at ⟨#[a, b, .int .u8 nu, undef, undef, undef, undef, undef, undef, undef, undef, undef, undef, undef, undef, undef, undef, undef, undef, undef, undef, undef, undef, undef, undef, undef, undef, undef, undef, undef, undef, undef, undef, undef, undef, undef, undef, undef, undef, undef, undef, undef, undef, undef, undef, undef, undef, undef, undef, undef, undef, undef, undef, undef, undef, undef, undef, undef, undef, undef, undef, undef, undef, undef, undef, undef, undef, undef, undef, undef, undef, undef, undef, undef, undef, undef, undef, undef, undef, undef, undef, undef, undef, undef, undef, undef, undef, undef, undef], []⟩ [.code body5]) []] W none) #[] = (.ended o wF, t') ∧ runN Tryz.prog N (crowd #[G ((base 5).at ⟨#[a, b, .int .u8 nu, undef, undef, undef, undef, undef, undef, undef, undef, undef, undef, undef, undef, undef, undef, undef, undef, undef, undef, undef, undef, undef, undef, undef, undef, undef, undef, undef, undef, undef, undef, undef, undef, undef, undef, undef, undef, undef, undef, undef, undef, undef, undef, undef, undef, undef, undef, undef, undef, undef, undef, undef, undef, undef, undef, undef, undef, undef, undef, undef, undef, undef, undef, undef, undef, undef, undef, undef, undef, undef, undef, undef, undef, undef, undef, undef, undef, undef, undef, undef, undef, undef, undef, undef, undef, undef, undef], []⟩ [.code body5]) []] W none) = .next last ∧
      step Tryz.prog last = .ended o wF ∧ Go.Conc.Good Tryz.prog (fun v W' => v = .bool true ∧ Below W.heap.size W W') last o wF t' := fun h =>
    run_post (fun v W' ⟨h1, h2, h3⟩ => ⟨h1, below_of_gw h2 h3 (Nat.le_refl _) (fun k e => by cases e)⟩) (dx_end Tryz.func5 rfl (by kernel_rfl) (fun w d h => h.at d) h rfl hlv (pastE_of past_nil))
  by_cases hl : 600 < IntKind.i64.wrap (IntKind.i64.wrap (longL La : Nat) + IntKind.i64.wrap (longL Lb : Nat))
  · exact known (begin5_long hA hA2 hl hG hKa hKb)
  by_cases hm : 60 < La.length + Lb.length
  · exact known (begin5_many hA hA2 hl hm hma hmb hG hKa hKb)
  clear known
  have hgo := begin5_go hA hA2 hl hm hG hKa hKb hu0 hu1
  obtain ⟨k, hk⟩ : ∃ k : Nat, 1 + nu % 64 = (k : Int) := ⟨(1 + nu % 64).toNat, by omega⟩
  rw [hk] at hgo
  have hkk : clipI k = k := by unfold clipI; omega
  have hN : La.length + Lb.length ≤ 60 := by omega
  have h2 := hG.two
  have hkwa : ∀ x, KOf a La x → x.block < W.heap.size := fun x hx => by
    obtain ⟨s, _, hs⟩ := kof_cell hKa hx
    exact lt_of_cell hs
  have hkwb : ∀ x, KOf b Lb x → x.block < W.heap.size := fun x hx => by
    obtain ⟨s, _, hs⟩ := kof_cell hKb hx
    exact lt_of_cell hs
  -- to the first call
  obtain ⟨M1, gs1, a1, w1, sl1, t1, q1, r1, h01, ⟨v1, al, hv1, b1, hown, rfl⟩, L1, P1⟩ := dl_beside (sl := none) hgo rfl hlv (past_nil.mono (Nat.zero_le _))
  refine run_after r1 ?_
  have z1 := b1.size
  -- Spread(a, k)
  obtain ⟨M2, gs2, w2, sl2, t2, q2, O1, g1, B1, vs1, r2, h02, L2, P2, s1⟩ := spread_crowd (sl := sl1) (hG.below b1 h2) (hKa.below b1 (Nat.le_refl _)) hsa (by omega) h01 L1 P1 (fun l (h : False) => h.elim) (fun x hx (h : False) => h)
  refine run_after r2 ?_
  have z2 := s1.bel.size
  have o1 := s1.ob
  have og1 := s1.og
  have gb1 := s1.gb
  have tp1 := s1.top
  rw [fin9 _ 41 _ rfl] at h02
  -- between
  obtain ⟨M3, gs3, a3, w3, sl3, t3, q3, r3, h03, ⟨⟨d3, rfl⟩, rfl⟩, L3, P3⟩ := dl_beside (sl := sl2) (mid5b (W := w2) (Shun := fun l => False ∨ ∃ x : Addr, l = .cell x ∧ x.block = g1)) h02 L2 P2
  refine run_after r3 ?_
  have bW2 : Below W.heap.size W w2 := b1.trans (s1.bel.mono (by omega))
  -- Spread(b, k)
  obtain ⟨M4, gs4, w4, sl4, t4, q4, O2, g2, B2, vs2, r4, h04, L4, P4, s2⟩ := spread_crowd (sl := sl3) (W := w2.at d3) (hG.below (below_at bW2 d3) h2) (hKb.below (below_at bW2 d3) (Nat.le_refl _)) hsb (by omega) h03 L3 P3
    (fun l h => by
      rcases h with h | ⟨x, e1, e2⟩
      · exact h.elim
      · exact ⟨x, e1, by omega, by show x.block < w2.heap.size; omega⟩)
    (fun x hx h => by
      rcases h with h | ⟨y, e1, e2⟩
      · exact h
      · cases e1
        have := hkwb x hx
        omega)
  refine run_after r4 ?_
  have z4 : w2.heap.size ≤ w4.heap.size := s2.bel.size
  have o2 : w2.heap.size ≤ O2 := s2.ob
  have og2 := s2.og
  have gb2 := s2.gb
  have tp2 := s2.top
  have b24 : Below w2.heap.size w2 w4 := at_below s2.bel
  rw [fin9 _ 44 _ rfl] at h04
  -- between
  obtain ⟨M5, gs5, a5, w5, sl5, t5, q5, r5, h05, ⟨⟨d5, rfl⟩, rfl⟩, L5, P5⟩ := dl_beside (sl := sl4) (mid5c (W := w4) (Shun := fun l => (False ∨ ∃ x : Addr, l = .cell x ∧ x.block = g1) ∨ ∃ x : Addr, l = .cell x ∧ x.block = g2)) h04 L4 P4
  refine run_after r5 ?_
  have b14 : Below w1.heap.size w1 w4 := s1.bel.trans (b24.mono z2)
  have bW4 : Below W.heap.size W w4 := bW2.trans (b24.mono (by omega))
  have hKal1 : StrAt w1 al (La ++ Lb) := StrAt.own (n := (La ++ Lb).length) (by
    have := hown.own
    rwa [List.length_map] at this)
  have hkal : ∀ x, KOf al (La ++ Lb) x → x.block < w1.heap.size := fun x hx => by
    obtain ⟨s, _, hs⟩ := kof_cell hKal1 hx
    exact lt_of_cell hs
  -- Spread(all, k)
  obtain ⟨M6, gs6, w6, sl6, t6, q6, O3, g3, B3, vs3, r6, h06, L6, P6, s3⟩ := spread_crowd (sl := sl5) (W := w4.at d5) (hG.below (below_at bW4 d5) h2) (hKal1.below (below_at b14 d5) (Nat.le_refl _)) (fun s hs => (List.mem_append.1 hs).elim (hsa s) (hsb s)) (by rw [List.length_append]; omega) h05 L5 P5
    (fun l h => by
      rcases h with (h | ⟨x, e1, e2⟩) | ⟨x, e1, e2⟩
      · exact h.elim
      · exact ⟨x, e1, by omega, by show x.block < w4.heap.size; omega⟩
      · exact ⟨x, e1, by omega, by show x.block < w4.heap.size; omega⟩)
    (fun x hx h => by
      have := hkal x hx
      rcases h with (h | ⟨y, e1, e2⟩) | ⟨y, e1, e2⟩
      · exact h
      · cases e1; omega
      · cases e1; omega)
  refine run_after r6 ?_
  have z6 : w4.heap.size ≤ w6.heap.size := s3.bel.size
  have o3 : w4.heap.size ≤ O3 := s3.ob
  have og3 := s3.og
  have gb3 := s3.gb
  have tp3 := s3.top
  have b46 : Below w4.heap.size w4 w6 := at_below s3.bel
  rw [fin9 _ 47 _ rfl] at h06
  have b26 : Below w2.heap.size w2 w6 := b24.trans (b46.mono z4)
  have b16 : Below w1.heap.size w1 w6 := b14.trans (b46.mono (by omega))
  have bW6 : Below W.heap.size W w6 := bW4.trans (b46.mono (by omega))
  have hG6 : GlobOk w6 := hG.below bW6 h2
  have hKa6 := hKa.below bW6 (Nat.le_refl _)
  have hKb6 := hKb.below bW6 (Nat.le_refl _)
  -- what the rest touches
  let B : Nat → Prop := fun x => x = 0 ∨ x = 1 ∨ (StrB w6 x ∧ ((W.heap.size ≤ x ∧ x < w1.heap.size) ∨ (B1 ≤ x ∧ x < w2.heap.size) ∨ (B2 ≤ x ∧ x < w4.heap.size) ∨ B3 ≤ x)) ∨ x = O1 ∨ x = O2 ∨ x = O3 ∨ w6.heap.size ≤ x
  have c1 : ∀ g, W.heap.size ≤ g → StrB w1 g → B g := fun g h h' => .inr (.inr (.inl ⟨h'.below b16 h'.lt, .inl ⟨h, h'.lt⟩⟩))
  have c2' : ∀ g, B1 ≤ g → StrB w2 g → B g := fun g h h' => .inr (.inr (.inl ⟨h'.below b26 h'.lt, .inr (.inl ⟨h, h'.lt⟩)⟩))
  have c3 : ∀ g, B2 ≤ g → StrB w4 g → B g := fun g h h' => .inr (.inr (.inl ⟨h'.below b46 h'.lt, .inr (.inr (.inl ⟨h, h'.lt⟩))⟩))
  have c4 : ∀ g, B3 ≤ g → StrB w6 g → B g := fun g h h' => .inr (.inr (.inl ⟨h', .inr (.inr (.inr h))⟩))
  have nK : ∀ x, K2 a b La Lb x → ¬ B x.block ∧ ∃ s, w6.cell? x = some (.string s) := by
    intro x hx
    have key : x.block < W.heap.size ∧ ∃ s, w6.cell? x = some (.string s) ∧ x.spot = none := by
      rcases hx with hx | hx
      · obtain ⟨s, _, hs⟩ := kof_cell hKa6 hx
        refine ⟨hkwa x hx, s, hs, ?_⟩
        obtain ⟨g, off, c, k, s', _, _, rfl⟩ := hx
        rfl
      · obtain ⟨s, _, hs⟩ := kof_cell hKb6 hx
        refine ⟨hkwb x hx, s, hs, ?_⟩
        obtain ⟨g, off, c, k, s', _, _, rfl⟩ := hx
        rfl
    obtain ⟨hlt, s, hs, hsp⟩ := key
    refine ⟨?_, s, hs⟩
    obtain ⟨bl, off, spot⟩ := x
    simp only at hsp hlt
    subst hsp
    rintro (h | h | ⟨_, h⟩ | h | h | h | h)
    · exact hG6.txt _ (.inl h) _ _ hs
    · exact hG6.txt _ (.inr h) _ _ hs
    all_goals (simp only at h; omega)
  have hcw : CWK (scOf B (K2 a b La Lb) false LK NK) w6 := ⟨⟨fun x o hx ho => by
      rcases hx with rfl | rfl | ⟨hs, _⟩ | rfl | rfl | rfl | hge
      · exact hG6.cl 0 (.inl rfl) o ho _
      · exact hG6.cl 1 (.inr rfl) o ho _
      · exact strB_cl hs ho
      · rw [b26.block _ (by omega), s1.rows.out] at ho
        cases ho
        exact rows_cl s1.rows c2'
      · rw [b46.block _ (by omega), s2.rows.out] at ho
        cases ho
        exact rows_cl s2.rows c3
      · rw [s3.rows.out] at ho
        cases ho
        exact rows_cl s3.rows c4
      · (rw [Array.getElem?_eq_none hge] at ho; cases ho), fun r hr => .inr (.inr (.inr (.inr (.inr (.inr hr)))))⟩, nK⟩
  have hl5 := last5 (w := w6) (B := B) (v1 := v1) (al := al) (La := La) (Lb := Lb) (gs := gs6) (sl := sl6) (t := t6) (q := q6) (Shun := fun l => ((False ∨ ∃ x : Addr, l = .cell x ∧ x.block = g1) ∨ ∃ x : Addr, l = .cell x ∧ x.block = g2) ∨ ∃ x : Addr, l = .cell x ∧ x.block = g3)
    (r1 := .slice (some ⟨O1, 0, none⟩) (clipI k) (clipI k)) (r2v := .slice (some ⟨O2, 0, none⟩) (clipI k) (clipI k)) (r3 := .slice (some ⟨O3, 0, none⟩) (clipI k) (clipI k)) (k := k)
    hkk (by omega) hKa6 hKb6 (.inl rfl) (.inr (.inl rfl)) hcw
    (by
      rcases hv1 with rfl | ⟨g, n, cap, rfl, h3, h4⟩
      · exact .slice0 _ _
      · exact .slice _ _ _ (c1 g h3 h4))
    (cl_own hown c1) (.slice _ _ _ (.inr (.inr (.inr (.inl rfl))))) (.slice _ _ _ (.inr (.inr (.inr (.inr (.inl rfl)))))) (.slice _ _ _ (.inr (.inr (.inr (.inr (.inr (.inl rfl)))))))
    ((rows_read s1.rows rfl).below b26 (Nat.le_refl _)) ((rows_read s2.rows rfl).below b46 (Nat.le_refl _)) (rows_read s3.rows rfl)
    (fun l h => by
      have key : ∀ x : Addr, x.block = g1 ∨ x.block = g2 ∨ x.block = g3 → ¬ B x.block ∧ ¬ K2 a b La Lb x := by
        intro x hx
        refine ⟨?_, fun hk => ?_⟩
        · rintro (h | h | ⟨_, h⟩ | h | h | h | h) <;> omega
        · have : x.block < W.heap.size := hk.elim (hkwa x) (hkwb x)
          omega
      rcases h with ((h | ⟨x, e1, e2⟩) | ⟨x, e1, e2⟩) | ⟨x, e1, e2⟩
      · exact h.elim
      · exact ⟨x, e1, key x (.inl e2)⟩
      · exact ⟨x, e1, key x (.inr (.inl e2))⟩
      · exact ⟨x, e1, key x (.inr (.inr e2))⟩)
    h06 L6 (pastE_of P6)
  refine run_post (fun v W' ⟨h1, h3, h4⟩ => ⟨h1, bW6.trans ?_⟩) hl5
  exact below_of_gw h3 h4 (by omega) (fun k e => by cases e)
end Go.Proofs.YtacimedkchjfnaaGreat
end
