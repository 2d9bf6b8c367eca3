/- Part 18 of the proof: C16, C17, D0, D1. -/
import Derived.Test.YtacimedkchjfnaaGreatV12
import Derived.Test.YtacimedkchjfnaaGreatV17
import Derived.Test.YtacimedkchjfnaaGreatV09
import Derived.Deep.AppendLies
import Derived.Deep.RegionHeld3
import Derived.Deep.DrawnRows
section
/-! Goroutine 0 in 'shards': its end. And: from the walks to the crowd of leavers. -/
namespace Go.Proofs.YtacimedkchjfnaaGreat
set_option linter.unusedSimpArgs false
set_option linter.unusedVariables false
set_option maxRecDepth 100000
open Go.Conc Go.RowKit Go.Conc.Lib Go.ConcR.Gen
open Go.ConcR (KK wgBlock WgAt stA smA rd wr deafBehind_cons deafBehind_one)
open Go.ConcN (WgLive sumTo upd)
section
variable {P : Program} {main : Bool} {R : World → World → Prop} {D D₁ D₂ : Nat → World → World → Array Event → Prop} {Stop Stop₁ Stop₂ : Nat → Goroutine → World → Prop}
/-- A walk, then another. -/
theorem GD.bind (rf : ∀ w, R w w) (hD : ∀ d w w' es, D₁ d w w' es → D₂ d w w' es) {m : Nat} (hS : ∀ d g w, Stop₁ d g w → GD P main R D₂ Stop₂ m d g w) : ∀ {n d : Nat} {g : Goroutine} {w : World}, GD P main R D₁ Stop₁ n d g w → GD P main R D₂ Stop₂ (m + n) d g w := by
  intro n
  induction n with
  | zero => exact fun h => hS _ _ _ (h _ (rf _))
  | succ n ih =>
    intro d g w h
    rcases h with h | ⟨hs, h⟩
    · exact (hS _ _ _ (h _ (rf _))).mono (by omega)
    · refine .inr ⟨hs, fun w₁ h₁ => ?_⟩
      have := h w₁ h₁
      revert this
      cases stepG P main g w₁ <;> simp only [GStep.goes, imp_self]
      exact fun ⟨d, x⟩ => ⟨hD _ _ _ _ d, ih x⟩
/-- What the rely and the steps keep is had at the stop. -/
theorem GD.inv (I : World → Prop) (hR : ∀ w w₁, R w w₁ → I w → I w₁) (hD : ∀ d w w' es, D d w w' es → I w → I w') : ∀ {n d : Nat} {g : Goroutine} {w : World}, GD P main R D Stop n d g w → I w → GD P main R D (fun d g w => Stop d g w ∧ I w) n d g w := by
  intro n
  induction n with
  | zero => exact fun h hi w₁ h₁ => ⟨h w₁ h₁, hR _ _ h₁ hi⟩
  | succ n ih =>
    intro d g w h hi
    rcases h with h | ⟨hs, h⟩
    · exact .inl fun w₁ h₁ => ⟨h w₁ h₁, hR _ _ h₁ hi⟩
    · refine .inr ⟨hs, fun w₁ h₁ => ?_⟩
      have := h w₁ h₁
      have hi' := hR _ _ h₁ hi
      revert this
      cases stepG P main g w₁ <;> simp only [GStep.goes, imp_self]
      exact fun ⟨d, x⟩ => ⟨d, ih x (hD _ _ _ _ d hi')⟩
/-- Where nobody but the count of draws turns, nobody's hearing either: a walk without a bound. -/
theorem bw_of_gd (hd : ∀ d w w' es, D d w w' es → deafBehind d es = d) : ∀ {n : Nat} {g : Goroutine} {w : World}, GD P true AtRel D Stop n 0 g w → BW P (D 0) (Stop 0) g w := by
  intro n
  induction n with
  | zero => exact fun h => .stop fun d => h _ ⟨d, rfl⟩
  | succ n ih =>
    intro g w h
    rcases h with h | ⟨hs, h⟩
    · exact .stop fun d => h _ ⟨d, rfl⟩
    · have h1 : ∀ d, ∃ x : Goroutine × World × Array Event, stepG P true g (w.at d) = .go x.1 x.2.1 x.2.2 ∧ D 0 (w.at d) x.2.1 x.2.2 ∧ GD P true AtRel D Stop n 0 x.1 x.2.1 := by
        intro d
        have := h (w.at d) ⟨d, rfl⟩
        revert this
        cases stepG P true g (w.at d) with
        | go g' w' es =>
          rintro ⟨h1, h2⟩
          rw [hd _ _ _ _ h1] at h2
          exact ⟨(g', w', es), rfl, h1, h2⟩
        | _ => simp [GStep.goes]
      obtain ⟨F, hF⟩ := Classical.axiomOfChoice h1
      exact .step hs (fun d => (F d).1) (fun d => (F d).2.1) (fun d => (F d).2.2) (fun d => (hF d).1) (fun d => (hF d).2.1) fun d => ih (hF d).2.2
theorem bw_weaken {D D' : World → World → Array Event → Prop} {Stop Stop' : Goroutine → World → Prop} (hD : ∀ w w' es, D w w' es → D' w w' es) (hS : ∀ g w, Stop g w → Stop' g w) {g : Goroutine} {w : World} (h : BW P D Stop g w) : BW P D' Stop' g w := by
  induction h with
  | stop h => exact .stop fun d => hS _ _ (h d)
  | step hs g' w' es h hd _ ih => exact .step hs g' w' es h (fun d => hD _ _ _ (hd d)) ih
theorem dq_deaf {Shun : Loc → Prop} {U d : Nat} {w w' : World} {es : Array Event} (h : DQ Shun U d w w' es) : deafBehind d es = d := deafBehind_still (fun e he => ⟨(h.2 e he).1.2.1, (h.2 e he).1.2.2.1⟩) d
end
section
variable {x : Ph} {Shun : Loc → Prop} {U : Nat} {bN bO bJ bE N C : Nat} {keys : Value} {b₀ : Frame} {a₀ : Act} {ops₀ : Array Oper} {i₀ : Nat} {rest₀ : List Nat} {k₀ : List Item} {cs₀ : List Frame} {Stop : Nat → Goroutine → World → Prop}
set_option maxHeartbeats 4000000 in
theorem tail_walk {g : Goroutine} {w : World} (hA : AnchF x bN bO bJ bE keys (b₀.at a₀ (.inRegion ops₀ (i₀ :: rest₀) :: k₀) :: cs₀) g) (hcell : w.cell? ⟨bO, 0, none⟩ = some (.slice (some ⟨C, 0, none⟩) N N))
    (hS : ¬ Shun (.cell ⟨bO, 0, none⟩)) (hU : bO ≠ U) {n : Nat}
    (hq : ∀ w', AtRel w w' → GD Tryz.prog true AtRel (DQ Shun U) Stop n 0 (G (b₀.at (a₀.put ((ops₀[i₀]?).bind (·.dst)) (.slice (some ⟨C, 0, none⟩) N N)) (.inRegion ops₀ rest₀ :: k₀)) cs₀) w') :
    ∃ m, GD Tryz.prog true AtRel (DQ Shun U) Stop m 0 g w := by
  obtain ⟨T₀, hT, m, hm⟩ := hA
  have T := tQ Shun U
  have hm := GD.inv (fun w' => AtRel w w') (fun _ _ h h' => atRel_trans _ _ _ h' h) (fun _ _ _ _ h h' => by rw [h.1]; exact h') (hm w) (atRel_refl w)
  refine ⟨_, GD.bind (m := n + 20) atRel_refl (fun d w w' es h => ?_) ?_ hm⟩
  · rw [h.1, h.2]; exact ⟨Nat.le_refl _, fun e he => by simp at he⟩
  rintro d g w₁ ⟨⟨rfl, rfl⟩, hr⟩
  obtain ⟨v0, v1, v2, v3, v4, v5, v6, v7, v8, v9, v10, v11, v12, v13, v14, v15, v16, v17, v18, v19, v20, v21, v22, v23, v24, v25, v26, v27, v28, v29, v30, v31, v32, v33, v34, v35, rfl⟩ := arr36 T₀ hT.size
  obtain ⟨_, e0, e3, e5, e6, e7, e8⟩ := id hT
  simp only [List.getElem?_toArray, List.getElem?_cons_succ, List.getElem?_cons_zero, Option.some.injEq] at e0 e3 e5 e6 e7 e8
  subst e0 e3 e5 e6 e7 e8
  clear hT hm
  have hI : ∀ a b : World, AtRel a b → AtRel w a → AtRel w b := fun a b h h' => atRel_trans _ _ _ h' h
  have hD : ∀ (d : Nat) (w : World) (es : Array Event), (∀ e ∈ es, EvL Shun w.heap.size e ∧ ∀ b ad, (MemAct.ofEvent e).touch? = some b → b.loc = .cell ad → ad.block ≠ U) → DQ Shun U d w w es := fun d w es h => ⟨Nat.le_refl _, h⟩
  have hIw := hr
  have hcl : ∀ w', AtRel w w' → w'.cell? ⟨bO, 0, none⟩ = some (.slice (some ⟨C, 0, none⟩) N N) := fun w' h => by obtain ⟨d, rfl⟩ := h; exact hcell
  have hlt : ∀ w', AtRel w w' → bO < w'.heap.size := fun w' h => by have := lt_of_cell (hcl w' h); exact this
  simp only [backW, ops15, K15, K14, E16, Tryz.f16, Option.getD_some]
  with_reducible refine gd_c T (G_running _ _) (fun _ => stepG_region_end) ?_
  with_reducible refine gd_c T (G_running _ _) (fun _ => stepG_seq) ?_
  ((with_reducible refine gd_c T (G_running _ _) (fun _ => stepG_region) ?_); simp only [List.size_toArray, List.length_cons, List.length_nil, Nat.reduceAdd, Nat.zero_add, List.range, List.range.loop])
  refine gd_op rfl rfl (by k_ne) (fun w₁ h₁ K hK => ?_)
  replace hIw := hI _ _ h₁ hIw
  have hc := hcl _ hIw
  have hl := hlt _ hIw
  go_simp
  refine hK _ _ (hD _ _ _ (fun e he => ?_)) (deafBehind_plain (fun e he => ?_)) ?_
  · have hm := mem_listed he
    simp [go_sem, hc] at hm
    subst hm
    exact ⟨evL_cell _ _ hS hl, fun b' ad hb' hl => by cases hb'; cases hl; exact hU⟩
  · have hm := mem_listed he
    simp [go_sem, hc] at hm
    subst hm
    exact ⟨_, _, _, rfl⟩
  clear hK K hc h₁ hl
  (try walk_nrm)
  (co_applyP gd_val T rfl rfl (by k_ne) ?_ ?_ ?_; (focus (intro _ K hK; go_simp; (try w_num); exact hK)); (focus (intro _; simp [go_sem, *]; done)); (try walk_nrm))
  with_reducible refine gd_c T (G_running _ _) (fun _ => stepG_region_end) ?_
  with_reducible refine gd_c T (G_running _ _) (fun _ => stepG_ret') ?_
  (refine gd_leave1 T rfl rfl Tryz.func16 rfl ?_; (try walk_nrm))
  exact (hq _ hIw).mono (by omega)
end
end Go.Proofs.YtacimedkchjfnaaGreat
end

section
/-! 'shards' in the crowd: from its entry to where it was called, whatever old goroutines still leave. -/
namespace Go.Proofs.YtacimedkchjfnaaGreat
set_option linter.unusedSimpArgs false
set_option linter.unusedVariables false
set_option maxRecDepth 100000
open Go.Conc Go.RowKit Go.Conc.Lib Go.ConcR.Gen
open Go.ConcR (KK wgBlock WgAt stA smA rd wr deafBehind_cons deafBehind_one)
open Go.ConcN (WgLive sumTo upd)
theorem PB.at' {N : Nat} {nv : Int} {W w w₁ : World} (h : PB W N nv w) (r : AtRel w w₁) : PB W N nv w₁ := by
  obtain ⟨d, rfl⟩ := r; exact h.at d
theorem PG.at' {N : Nat} {nv : Int} {W w w₁ : World} {keys : Value} {T : Array Value} {bJ bE j e : Nat} (h : PG W N nv keys T w bJ bE j e) (r : AtRel w w₁) : PG W N nv keys T w₁ bJ bE j e := by
  obtain ⟨d, rfl⟩ := r
  exact ⟨h.size, h.t0, h.t3, h.t5, h.t6, h.t7, h.pb.at d, h.hbJ, h.hbE, h.hj, h.he, h.hje⟩
theorem PF.at' {N : Nat} {nv : Int} {W w w₁ : World} {keys : Value} {T : Array Value} {bJ bE j e g : Nat} (h : PF W N nv keys T w bJ bE j e g) (r : AtRel w w₁) : PF W N nv keys T w₁ bJ bE j e g := by
  refine ⟨h.toPG.at' r, h.t8, ?_, ?_⟩
  · obtain ⟨d, rfl⟩ := r; exact h.hg
  · obtain ⟨d, rfl⟩ := r; exact h.top
theorem runNT_tr {P : Program} {K : Nat} {m' m'' : Machine} {t' t'' : Trace} (hk : runNT P K m' t' = (.next m'', t'')) : ∀ {N : Nat} {m : Machine} {t : Trace}, runNT P N m t = (.next m', t') → runNT P (N + K) m t = (.next m'', t'') := by
  intro N
  induction N with
  | zero =>
    intro m t h
    simp only [runNT, Prod.mk.injEq, Stepped.next.injEq] at h
    obtain ⟨rfl, rfl⟩ := h
    rw [Nat.zero_add]
    exact hk
  | succ N ih =>
    intro m t h
    rw [show N + 1 + K = (N + K) + 1 by omega]
    simp only [runNT] at h ⊢
    generalize stepT P m = r at h ⊢
    obtain ⟨r, ops⟩ := r
    cases r with
    | next m1 => exact ih h
    | ended o w => cases h
/-- No cell of block U has been touched. -/
def Untouched (U : Nat) (t : Trace) : Prop := ∀ k b ad, touchAt t k = some b → b.loc = .cell ad → ad.block ≠ U
theorem Untouched.app {U : Nat} {t u : Trace} (h : Untouched U t) (hu : ∀ op ∈ u, ∀ b ad, op.act.touch? = some b → b.loc = .cell ad → ad.block ≠ U) : Untouched U (t ++ u) := by
  intro k b ad hk hl
  obtain ⟨op, hop, ho⟩ := touch_of hk
  rcases getElem?_append_cases hop with ⟨_, h'⟩ | ⟨_, h'⟩
  · exact h k b ad (by rw [touchAt_of h']; exact ho) hl
  · exact hu op h' b ad ho hl
/-- What is held of the trace while goroutine 0 walks between phases. -/
structure IP (Shun : Loc → Prop) (U : Nat) (w : World) (t : Trace) : Prop where
  past : Past Shun w.heap.size t
  un : Untouched U t
theorem touch_of_ev {g : Nat} {fn : FuncId} {pos : String} {es : Array Event} {op : MemOp} (h : op ∈ MemOp.ofEvents g fn pos es) : ∃ e ∈ es, op.act = .ofEvent e := by
  obtain ⟨e, he, rfl⟩ := Go.Conc.mem_ofEvents h
  exact ⟨e, he, rfl⟩
section
variable {Shun : Loc → Prop} {U : Nat}
theorem ip_own (w w' : World) (es : Array Event) (fn : FuncId) (pos : String) (t : Trace) (h : IP Shun U w t) (hD : DQ Shun U 0 w w' es) : IP Shun U w' (t ++ MemOp.ofEvents 0 fn pos es) :=
  ⟨(h.past.mono hD.1).own fun e he => (hD.2 e he).1, h.un.app fun op ho b ad hb hl => by
    obtain ⟨e, he, h1⟩ := touch_of_ev ho
    rw [h1] at hb
    exact (hD.2 e he).2 b ad hb hl⟩
theorem ip_mute (w : World) (t : Trace) (i : Nat) (fn : FuncId) (pos : String) (es : Array Event) (hi : i ≠ 0) (h : IP Shun U w t) (hm : ∀ e ∈ es, e.mute = true) : IP Shun U w (t ++ MemOp.ofEvents i fn pos es) :=
  ⟨h.past.mute hi hm, h.un.app fun op ho b ad hb hl => by
    obtain ⟨e, he, h1⟩ := touch_of_ev ho
    rw [h1, touch_mute (hm e he)] at hb
    cases hb⟩
theorem ofEvents_nil (g : Nat) (fn : FuncId) (pos : String) : MemOp.ofEvents g fn pos #[] = #[] := by rw [ofEvents_eq]; simp
theorem dropCell {w : World} {b : Nat} {c : Array Value} {ty : TypeId} {f : Nat × Nat} (h : w.heap[b]? = some (.cells c ty f)) (i : Nat) : w.cell? ⟨b, i, none⟩ = c[i]? := by simp [World.cell?, h]
end
section
variable {Shun : Loc → Prop} {W : World} {gs : Array Goroutine} {sl : Option (Nat × Nat)} {t : Trace} {q : Nat → Nat} {N cap : Nat} {nv : Int} {a0 : Option Addr} {ks : Nat → ByteArray} {b₀ : Frame} {a₀ : Act} {ops₀ : Array Oper} {i₀ : Nat} {rest₀ : List Nat} {k₀ : List Item} {cs₀ : List Frame}
/-- What 'shards' leaves; g: the group's block. -/
structure SW (W : World) (N : Nat) (nv : Int) (ks : Nat → ByteArray) (g : Nat) (w : World) : Prop where
  bl : Below W.heap.size W w
  size : W.heap.size + 3 ≤ w.heap.size
  lo : W.heap.size + 3 ≤ g
  top : g < w.heap.size
  out : ∃ cs : Array Value, w.heap[W.heap.size + 1]? = some (.cells cs 3) ∧ cs.size = N ∧ ∀ k, k < N → cs[k]? = some (.int .i64 (shardN (ks k) nv : Nat))
theorem SW.at {W w : World} {g : Nat} (h : SW W N nv ks g w) (d : Nat) : SW W N nv ks g (w.at d) := ⟨below_at h.bl d, h.size, h.lo, h.top, h.out⟩
set_option maxHeartbeats 4000000 in
/-- ████ 'shards', ON WHATEVER TAPE, WHATEVER OLD GOROUTINES STILL LEAVE. ████ -/
theorem shards_crowd (h0 : gs[0]? = some (G ((base 16).at ⟨#[.slice a0 N cap, .int .i64 nv, undef, undef, undef, undef, undef, undef, undef, undef, undef, undef, undef, undef, undef, undef, undef, undef, undef, undef, undef, undef, undef, undef, undef, undef, undef, undef, undef, undef, undef, undef, undef, undef, undef, undef], []⟩ [.code (Tryz.f16.body.getD .skip)]) (b₀.at a₀ (.inRegion ops₀ (i₀ :: rest₀) :: k₀) :: cs₀)))
    (hL : Leavers Tryz.prog t gs q) (hP : Past Shun W.heap.size t) (hS : ∀ l, Shun l → ∃ a : Addr, l = .cell a ∧ a.block < W.heap.size) (hN : N ≤ 1000000)
    (hk : ∀ k, k < N → ∃ ad, a0 = some ad ∧ ad.block < W.heap.size ∧ ¬ Shun (.cell (ad.add k)) ∧ W.cell? (ad.add k) = some (.string (ks k)) ∧ (ks k).size ≤ 140737488355328) :
    ∃ (M : Nat) (gs' : Array Goroutine) (w' : World) (sl' : Option (Nat × Nat)) (t' : Trace) (q' : Nat → Nat) (g : Nat),
      runNT Tryz.prog M (crowd gs W sl) t = (.next (crowd gs' w' sl'), t') ∧ gs'[0]? = some (G (b₀.at (a₀.put ((ops₀[i₀]?).bind (·.dst)) (.slice (some ⟨W.heap.size + 1, 0, none⟩) N N)) (.inRegion ops₀ rest₀ :: k₀)) cs₀) ∧
        Leavers Tryz.prog t' gs' q' ∧ Past (fun l => Shun l ∨ ∃ a : Addr, l = .cell a ∧ a.block = g) w'.heap.size t' ∧ SW W N nv ks g w' := by
  -- the begin
  have bw1 := bw_of_gd (P := Tryz.prog) (fun d w w' es h => dq_deaf h) (pro_walk (nv := nv) (a0 := a0) (cap := cap) (cs₀ := b₀.at a₀ (.inRegion ops₀ (i₀ :: rest₀) :: k₀) :: cs₀) (n := 0)
    (Stop := fun d g w => d = 0 ∧ ∃ T bJ bE j e, PG W N nv (.slice a0 N cap) T w bJ bE j e ∧ g = G ((base 16).at ⟨T, []⟩ [.code Q16]) (b₀.at a₀ (.inRegion ops₀ (i₀ :: rest₀) :: k₀) :: cs₀)) hS hN
    (fun T w bJ bE j e hp => GD.stop fun w₁ h₁ => ⟨rfl, T, bJ, bE, j, e, hp.at' h₁, rfl⟩))
  have hI1 : IP Shun (W.heap.size + 1) W t := ⟨hP, fun k b ad hb hl => by
    obtain ⟨op, hop, ho⟩ := touch_of hb
    have hl2 := hP.seen op (Array.mem_of_getElem? hop)
    cases hact : op.act with
    | access ev =>
      rw [hact] at ho hl2
      simp only [MemAct.touch?, Option.some.injEq] at ho
      subst ho
      dsimp only at hl
      simp only [MemAct.low, hl, Loc.low] at hl2
      omega
    | mark m =>
      rw [hact] at ho hl2
      cases m <;> simp only [MemAct.touch?, Option.some.injEq, reduceCtorEq] at ho
      all_goals
        subst ho
        simp only [Loc.cell.injEq] at hl
        subst hl
        simp only [MemAct.low] at hl2
        omega
    | _ => rw [hact] at ho; simp [MemAct.touch?] at ho⟩
  obtain ⟨M1, gs1, g1, w1, sl1, t1, q1, r1, s1, h01, ⟨-, T1, bJ, bE, j, e, hp1, rfl⟩, L1, I1⟩ := bw_beside (IP Shun (W.heap.size + 1)) (fun w t d h => ⟨h.past, h.un⟩) ip_own ip_mute bw1 gs W.drawn sl t q h0 hL hI1
  -- the group
  have bw2 := bw_of_gd (P := Tryz.prog) (fun d w w' es h => by rw [show es = #[] from h]; rfl) (pro3 (cs₀ := b₀.at a₀ (.inRegion ops₀ (i₀ :: rest₀) :: k₀) :: cs₀) (n := 0)
    (Stop := fun d g w => d = 0 ∧ ∃ T, PF W N nv (.slice a0 N cap) T w bJ bE j e w1.heap.size ∧ g = G ((base 16).at ⟨T, []⟩ [.code S16]) (b₀.at a₀ (.inRegion ops₀ (i₀ :: rest₀) :: k₀) :: cs₀)) hp1
    (fun T w hp => GD.stop fun w₁ h₁ => ⟨rfl, T, hp.at' h₁, rfl⟩))
  obtain ⟨M2, gs2, g2, w2, sl2, t2, q2, r2, s2, h02, ⟨-, T2, hp2, rfl⟩, L2, I2⟩ := bw_beside (fun _ t => Past Shun w1.heap.size t ∧ Untouched (W.heap.size + 1) t) (fun w t d h => h) (fun w w' es fn pos t h hD => by
      rw [show es = #[] from hD, ofEvents_nil, Array.append_empty]; exact h) (fun w t i fn pos es hi h hm => by
      have := ip_mute (Shun := Shun) (U := W.heap.size + 1) w1 t i fn pos es hi ⟨h.1, h.2⟩ hm
      exact ⟨this.past, this.un⟩) bw2 gs1 w1.drawn sl1 t1 q1 h01 L1 ⟨I1.past, I1.un⟩
  generalize hg : w1.heap.size = g at hp2 I2
  -- the phase
  obtain ⟨⟨hT, e0, e3, e5, e6, e7, hb, hbJ, hbE, hj, he, hje⟩, e8, hgg, htop⟩ := id hp2
  have ltW := hgg.1
  have lt2 : ∀ (k : Nat) o, w2.heap[k]? = some o → k < w2.heap.size := fun k o h => (Array.getElem?_eq_some_iff.1 h).1
  have dif : ∀ {k l : Nat} {o o' : Obj}, w2.heap[k]? = some o → w2.heap[l]? = some o' → o ≠ o' → k ≠ l := fun h h' hn e => by subst e; rw [h] at h'; cases h'; exact hn rfl
  have d1 := dif hgg.2 hj.2 (by simp)
  have d2 := dif hgg.2 he.2 (by simp)
  have d3 := dif hbJ.2 hgg.2 (by simp)
  have d4 := dif hbJ.2 hj.2 (by simp)
  have d5 := dif hbJ.2 he.2 (by simp)
  have d6 := dif hbE.2 hgg.2 (by simp)
  have d7 := dif hbE.2 hj.2 (by simp)
  have d8 := dif hbE.2 he.2 (by simp)
  have l1 := lt2 _ _ hj.2
  have l2 := lt2 _ _ he.2
  have l3 := lt2 _ _ hbJ.2
  have l4 := lt2 _ _ hbE.2
  have hc1 : 1 ≤ gs2.size := by have := (Array.getElem?_eq_some_iff.1 h02).1; omega
  let x : Ph := { ty := 61, Wg := g, C := W.heap.size + 1, J := j, E := e, Lo := W.heap.size, L0 := w2.heap.size, N := N, ety := 3, val := fun k => .int .i64 (shardN (ks k) nv : Nat), job := fun k => .agg #[.int .i64 k, .string (ks k)], zj := .agg #[.int .i64 0, .string ByteArray.empty], ze := .agg #[], W0 := w2, c := gs2.size, Shun := Shun, T0 := t2.size }
  have hj1 := hj.1
  have he1 := he.1
  have Gx : x.Geo := ⟨by show g < w2.heap.size; omega, by show W.heap.size + 1 < w2.heap.size; omega, l1, l2, by show g ≠ W.heap.size + 1; omega, d1, d2, by show W.heap.size + 1 ≠ j; omega, by show W.heap.size + 1 ≠ e; omega, hje,
    ⟨by show W.heap.size ≤ g; omega, by show W.heap.size ≤ W.heap.size + 1; omega, by show W.heap.size ≤ j; omega, by show W.heap.size ≤ e; omega⟩, hc1, hS⟩
  have fx : ∀ b, b < w2.heap.size → b ≠ g → b ≠ W.heap.size + 1 → b ≠ j → b ≠ e → x.Fx b := fun b h1 h2 h3 h4 h5 => ⟨h1, h2, h3, h4, h5⟩
  have hbJ1 := hbJ.1
  have hbE1 := hbE.1
  have B : BX x W.heap.size (W.heap.size + 2) bJ bE nv := by
    refine ⟨⟨Nat.le_refl _, fx _ (by omega) (by omega) (by omega) (by omega) (by omega)⟩, ⟨by show W.heap.size ≤ W.heap.size + 2; omega, fx _ (by omega) (by omega) (by omega) (by omega) (by omega)⟩, ⟨by show W.heap.size ≤ bJ; omega, fx _ l3 d3 (by omega) d4 d5⟩, ⟨by show W.heap.size ≤ bE; omega, fx _ l4 d6 (by omega) d7 d8⟩, ?_, ?_, ?_, ?_⟩
    · exact (dropCell hb.n 0).trans rfl
    · exact (dropCell hb.o 0).trans rfl
    · exact (dropCell hbJ.2 0).trans rfl
    · exact (dropCell hbE.2 0).trans rfl
  have K0 : KC x a0 ks := ⟨fun k hk' => by
    obtain ⟨ad, h1, h2, h3, h4, h5⟩ := hk k hk'
    refine ⟨ad, h1, fx _ (by omega) (by omega) (by omega) (by omega) (by omega), h3, ?_⟩
    rw [← h4]
    exact hb.bl.cell (by rw [add_blk]; exact h2), fun k _ => rfl⟩
  have WK := wks24 B Gx rfl rfl (by show N ≤ _; omega) (fun k hk' => by
    obtain ⟨ad, h1, h2, h3, h4, h5⟩ := hk k hk'
    exact ⟨ks k, rfl, h5, rfl⟩)
  have hwg : WgAt x.ty x.Wg w2 0 0 := hgg.2
  have hpay : x.Pay w2 := ⟨_, hb.c, size_madeCells _ _⟩
  have hwi : x.WI w2 := ⟨fun b _ => rfl, Nat.le_refl _, ⟨0, 0, hwg⟩, hpay, rfl, rfl, rfl⟩
  have hG := spawn_walk (cap := cap) (cs₀ := b₀.at a₀ (.inRegion ops₀ (i₀ :: rest₀) :: k₀) :: cs₀) B Gx (by show N ≤ _; omega) K0 (T₀ := T2) ⟨hT, e0, e3, e5, e6, e7, e8⟩ w2 hwg
  have low2 : ∀ (k : Nat) b ad, touchAt t2 k = some b → b.loc = .cell ad → ad.block < g := by
    intro k b ad hb hl
    obtain ⟨op, hop, ho⟩ := touch_of hb
    have hl2 := I2.1.seen op (Array.mem_of_getElem? hop)
    cases hact : op.act with
    | access ev =>
      rw [hact] at ho hl2
      simp only [MemAct.touch?, Option.some.injEq] at ho
      subst ho
      dsimp only at hl
      simp only [MemAct.low, hl, Loc.low] at hl2
      exact hl2
    | mark m =>
      rw [hact] at ho hl2
      cases m <;> simp only [MemAct.touch?, Option.some.injEq, reduceCtorEq] at ho
      all_goals
        subst ho
        simp only [Loc.cell.injEq] at hl
        subst hl
        exact hl2
    | _ => rw [hact] at ho; simp [MemAct.touch?] at ho
  obtain ⟨M3, m3, t3, r3, gs3, w3, sl3, q3, g3, rfl, s3, h03, hA3, L3, P3, hwi3, hv3⟩ := Ph.phase (x := x) (P := Tryz.prog) (sl := sl2) Gx WK rfl h02 L2 (I2.1.mono (by show g ≤ w2.heap.size; omega)) rfl
    (fun k b ad hb hl => ⟨I2.2 k b ad hb hl, fun e => by have := low2 k b ad hb hl; rw [show x.Wg = g from rfl] at e; omega⟩)
    (fun i hi => by
      cases hop : t2[i]? with
      | none => simp [Trace.act?, hop] at hi
      | some op =>
        simp [Trace.act?, hop] at hi
        have := I2.1.seen op (Array.mem_of_getElem? hop)
        rw [hi] at this
        simp only [MemAct.low] at this
        have e : (stA x.Wg).block = g := rfl
        omega) hwi rfl ⟨0, 0, hj.2⟩ ⟨0, 0, he.2⟩ hG
  -- the end
  have hcell : w3.cell? ⟨W.heap.size + 2, 0, none⟩ = some (.slice (some ⟨W.heap.size + 1, 0, none⟩) N N) := cell_fix hwi3 B.o B.co
  obtain ⟨m4, hm4⟩ := tail_walk (Shun := fun l => Shun l ∨ x.Sh l) (U := g) (n := 0) (Stop := fun d gg w => d = 0 ∧ AtRel w3 w ∧ gg = G (b₀.at (a₀.put ((ops₀[i₀]?).bind (·.dst)) (.slice (some ⟨W.heap.size + 1, 0, none⟩) N N)) (.inRegion ops₀ rest₀ :: k₀)) cs₀) hA3 hcell
    (by
      rintro (h | ⟨a, e1, e2⟩)
      · obtain ⟨a, e1, e2⟩ := hS _ h
        cases e1
        dsimp only at e2
        omega
      · cases e1
        have e2 : W.heap.size + 2 = g := e2
        omega) (by omega) (fun w' h => GD.stop fun w₁ h₁ => ⟨rfl, atRel_trans _ _ _ h h₁, rfl⟩)
  have bw3 := bw_of_gd (P := Tryz.prog) (fun d w w' es h => dq_deaf h) hm4
  obtain ⟨M4, gs4, g4, w4, sl4, t4, q4, r4, s4, h04, ⟨-, hr4, rfl⟩, L4, P4⟩ := bw_beside (fun w t => Past (fun l => Shun l ∨ x.Sh l) w.heap.size t) (fun w t d h => h) (fun w w' es fn pos t h hD => (h.mono hD.1).own fun e he => (hD.2 e he).1) (fun w t i fn pos es hi h hm => h.mute hi hm) bw3 gs3 w3.drawn sl3 t3 q3 h03 L3 P3
  have hrun := runNT_tr r4 (runNT_tr r3 (runNT_tr r2 r1))
  refine ⟨_, gs4, w4, sl4, t4, q4, g, hrun, h04, L4, ?_, ?_⟩
  · have e1 : (fun l => Shun l ∨ x.Sh l) = fun l => Shun l ∨ ∃ a : Addr, l = .cell a ∧ a.block = g := rfl
    rw [← e1]
    exact P4
  · obtain ⟨d, rfl⟩ := hr4
    refine SW.at ⟨⟨hwi3.os.trans hb.bl.os, hwi3.tape.trans hb.bl.tape, hwi3.output.trans hb.bl.output, Nat.le_trans hb.bl.size hwi3.size, fun k hk' => (hwi3.fix k (fx _ (by omega) (by omega) (by omega) (by omega) (by omega))).trans (hb.bl.block k hk')⟩, Nat.le_trans hb.size hwi3.size, by omega, Nat.lt_of_lt_of_le (by show g < w2.heap.size; omega) hwi3.size, ?_⟩ d
    obtain ⟨cs, hc, hsz⟩ := hwi3.pay
    refine ⟨cs, hc, hsz, fun k hk' => ?_⟩
    rw [← dropCell hc k]
    exact hv3 k hk'
end
end Go.Proofs.YtacimedkchjfnaaGreat
end

section
/-! Rows of texts that a call owns; keys by shards, plain; the rest of a frame. -/
namespace Go.Proofs.YtacimedkchjfnaaGreat
open Go.RowKit
set_option linter.unusedSimpArgs false
set_option linter.unusedVariables false

/-- A slice that the call owns, all of whose cells, the spare ones too, are as p says. -/
def OwnP (w : World) (base : Nat) (e : TypeId) (p : Value → Prop) (v : Value) (xs : List Value) : Prop :=
  (v = .slice none 0 0 ∧ xs = []) ∨
   ∃ g cap cur, v = .slice (some ⟨g, 0, none⟩) xs.length cap ∧ base ≤ g ∧ w.heap[g]? = some (.cells cur e (0, 0)) ∧ xs.length ≤ cap ∧ cap ≤ maxLen ∧ cur.size = cap ∧ cur.toList.take xs.length = xs ∧ ∀ u ∈ cur, p u
section
variable {w : World} {base : Nat} {e : TypeId} {p : Value → Prop} {v : Value} {xs : List Value}
theorem OwnP.own (h : OwnP w base e p v xs) : w.ownsRow base e 1 v xs.length xs := by
  rcases h with ⟨rfl, rfl⟩ | ⟨g, cap, cur, h1, h2, h3, h4, h5, h6, h7, _⟩
  · exact World.ownsRow_nil ..
  · exact ⟨by simp, .inr ⟨g, cap, cur, h1, h2, h3, h4, h5, by simpa using h6, by simpa using h7⟩⟩
theorem OwnP.lt (h : OwnP w base e p v xs) : ∀ k, v.ownBlock = some k → base ≤ k ∧ k < w.heap.size := h.own.lt
theorem OwnP.kept {w' : World} {row : Option Nat} (h : OwnP w base e p v xs) (hg : w.grownBy w' row) (hne : v.ownBlock = none ∨ v.ownBlock ≠ row) : OwnP w' base e p v xs := by
  rcases h with h | ⟨g, cap, cur, h1, h2, h3, h4⟩
  · exact .inl h
  · refine .inr ⟨g, cap, cur, h1, h2, ?_, h4⟩
    rw [hg.block g (Array.getElem?_eq_some_iff.1 h3).1 ?_]
    · exact h3
    · subst h1
      rcases hne with hne | hne
      · simp [Value.ownBlock] at hne
      · simpa [Value.ownBlock] using hne
theorem OwnP.form (h : OwnP w base e p v xs) (hn : 0 < xs.length) : ∃ g cap, v = .slice (some ⟨g, 0, none⟩) xs.length cap ∧ base ≤ g ∧ g < w.heap.size := h.own.form hn
theorem OwnP.alloc (h : OwnP w base e p v xs) (o : Obj) : OwnP (w.alloc o) base e p v xs := h.kept (World.grownBy_alloc w o none) (by cases v.ownBlock <;> simp)
theorem OwnP.drew (h : OwnP w base e p v xs) : OwnP w.drew base e p v xs := h
theorem ownP_nil : OwnP w base e p (.slice none 0 0) [] := .inl ⟨rfl, rfl⟩
end
section
variable {P : Program} (w : World)
/-- append onto it. -/
theorem run_append_P (t ty : TypeId) (base : Nat) (e : TypeId) (p : Value → Prop) (i : TypeInfo) (z : Value) (bytes : Nat) (ht : P.underlying t = some (.slice e)) (hi : P.info? e = some i) (hz : i.zero = some z)
    (hsize : i.size = 1) (hby : i.bytes = bytes) (hzc : z.cells = #[z]) (hpz : p z)
    (v : Value) (xs : List Value) (hown : OwnP w base e p v xs)
    (a : Addr) (m c : Nat) (news : List Value) (hl : news.length = m) (hnews : ∀ j u, news[j]? = some u → w.cell? (a.add j) = some u) (h1 : ∀ u ∈ news, u.oneCell' = true) (hp : ∀ u ∈ news, p u)
    (hm : 0 < m) (h63 : xs.length + m ≤ maxLen) (hbytes : (xs.length + m) * bytes ≤ 140737488355328) (hbase : base ≤ w.heap.size) :
    ∃ g cap w', (Builtin.append_ #[t, t] ty #[v, .slice (some a) m c]).run P w = .ok (.slice (some ⟨g, 0, none⟩) (xs.length + m) cap) w' ∧
      OwnP w' base e p (.slice (some ⟨g, 0, none⟩) (xs.length + m) cap) (xs ++ news) ∧ w.grownBy w' v.ownBlock ∧ (v.ownBlock = some g ∨ g = w.heap.size) ∧ g < w'.heap.size := by
  have hsmall : xs.length + m ≤ 9223372036854775807 := by simp only [maxLen] at h63; omega
  have hlen : (xs ++ news).length = xs.length + m := by rw [List.length_append, hl]
  have hl' : news.length = m * i.size := by rw [hsize, Nat.mul_one]; exact hl
  have hpc : ∀ k, ∀ u ∈ Builtin.zeroCells z.cells k, p u := by
    intro k u hu
    simp only [Builtin.zeroCells, hzc] at hu
    obtain ⟨i, _, rfl⟩ := Array.mem_map.1 hu
    simp [Nat.mod_one]
    exact hpz
  have grown : ∀ (old : Nat), (∀ u ∈ xs, p u) → ∀ (row : Option Nat),
      OwnP (w.drew.alloc (.cells (xs.toArray ++ news.toArray ++ Builtin.zeroCells z.cells (grownCap w (xs.length + m) old e - (xs.length + m))) e)) base e p
        (.slice (some ⟨w.heap.size, 0, none⟩) (xs.length + m) (grownCap w (xs.length + m) old e)) (xs ++ news) ∧
      w.grownBy (w.drew.alloc (.cells (xs.toArray ++ news.toArray ++ Builtin.zeroCells z.cells (grownCap w (xs.length + m) old e - (xs.length + m))) e)) row := by
    intro old hpx row
    have hge := grownCap_ge w (xs.length + m) old e
    have hcm : grownCap w (xs.length + m) old e ≤ maxLen := grownCap_le_maxLen w (xs.length + m) old e h63
    refine ⟨.inr ⟨w.heap.size, _, _, by rw [hlen], hbase, _root_.Go.heap_alloc_new w.drew _, by rw [hlen]; exact hge, hcm, ?_, ?_, ?_⟩, ⟨rfl, rfl, rfl, by simp, fun k hk _ => Below.heap_alloc w.drew _ k hk⟩⟩
    · simp only [Array.size_append, List.size_toArray, _root_.Go.size_zeroCells, hzc, hl, List.length_cons, List.length_nil]
      omega
    · simp only [Array.toList_append, List.append_assoc]
      rw [← List.append_assoc]
      exact List.take_left
    · intro u hu
      simp only [Array.mem_append, List.mem_toArray] at hu
      rcases hu with (hu | hu) | hu
      · exact hpx u hu
      · exact hp u hu
      · exact hpc _ u hu
  rcases id hown with ⟨rfl, rfl⟩ | ⟨g, cap, cur, rfl, hbg, hg, hnc, hcm, hcs, htake, hpu⟩
  · have hr := run_append_nil (P := P) w t ty e i z ht hi hz a m c news hl' hnews (by omega) (by simp only [List.length_nil] at hsmall; omega) (by have hb := hbytes; simp only [List.length_nil, Nat.zero_add] at hb; rw [hby]; omega)
    have hgr := grown 0 (by simp) (Value.ownBlock (.slice none 0 0))
    simp only [List.length_nil, Nat.zero_add, List.nil_append, Array.empty_append] at hgr ⊢
    exact ⟨_, _, _, hr, hgr.1, hgr.2, .inr rfl, by simp⟩
  · have hpx : ∀ u ∈ xs, p u := fun u hu => hpu u (by rw [← htake] at hu; exact Array.mem_toList_iff.1 (List.mem_of_mem_take hu))
    by_cases hroom : xs.length + m ≤ cap
    · have hfit : xs.length * i.size + news.length ≤ cur.size := by rw [hsize, Nat.mul_one, hl, hcs]; exact hroom
      have hr := run_append_room (P := P) w t ty e i ht hi g xs.length cap cur hg a m c news hl' hnews h1 hroom hfit
      rw [hsize, Nat.mul_one] at hr
      refine ⟨_, _, _, hr, .inr ⟨g, cap, _, by rw [hlen], hbg, setRow_heap w g cur _ e _ hg, by rw [hlen]; exact hroom, hcm, ?_, ?_, ?_⟩, ⟨rfl, rfl, rfl, by simp, fun k _ hk => setRow_other w g k _ (fun e => hk (by simp [Value.ownBlock, e]))⟩, .inl rfl, ?_⟩
      · simp only [List.size_toArray, List.length_append, List.length_take, List.length_drop, Array.length_toList]
        omega
      · rw [htake]
        exact List.take_left
      · intro u hu
        simp only [List.mem_toArray, List.mem_append] at hu
        rcases hu with (hu | hu) | hu
        · rw [htake] at hu; exact hpx u hu
        · exact hp u hu
        · exact hpu u (Array.mem_toList_iff.1 (List.mem_of_mem_drop hu))
      · have := (Array.getElem?_eq_some_iff.1 (setRow_heap w g cur (cur.toList.take xs.length ++ news ++ cur.toList.drop (xs.length + news.length)).toArray e _ hg)).1
        exact this
    · have holds : ∀ j u, xs[j]? = some u → w.cell? ((⟨g, 0, none⟩ : Addr).add j) = some u := hown.own.cells (g := g) rfl
      have hr := run_append_grow (P := P) w t ty e i z ht hi hz ⟨g, 0, none⟩ xs.length cap xs (by rw [hsize, Nat.mul_one]) holds a m c news hl' hnews (by omega) (by omega) (growslice_fits (by omega) (by rw [hby]; exact hbytes))
      have hgr := grown cap hpx (Value.ownBlock (.slice (some ⟨g, 0, none⟩) xs.length cap))
      exact ⟨_, _, _, hr, hgr.1, hgr.2, .inr rfl, by simp⟩
/-- At a step of a region that draws its order. -/
theorem step_append_P {ops : Array Oper} {o : Oper} {a : Act} {K : Act → World → Prop} {Q : Exit → Act → World → Prop} {E : Prop} (hgd : o.guard = none) (s x : Operand) (t : TypeId)
    (ho : o.op = .call { callee := .builtin .append, args := #[s, x], argTypes := #[t, t] })
    (base : Nat) (e : TypeId) (p : Value → Prop) (i : TypeInfo) (z : Value) (bytes : Nat) (ht : P.underlying t = some (.slice e)) (hi : P.info? e = some i) (hz : i.zero = some z)
    (hsize : i.size = 1) (hby : i.bytes = bytes) (hzc : z.cells = #[z]) (hpz : p z)
    (v : Value) (xs : List Value) (hs : a.eval s = v) (hown : OwnP w base e p v xs)
    (ad : Addr) (m c : Nat) (news : List Value) (hx : a.eval x = .slice (some ad) m c) (hl : news.length = m) (hnews : ∀ j u, news[j]? = some u → w.cell? (ad.add j) = some u) (h1 : ∀ u ∈ news, u.oneCell' = true) (hp : ∀ u ∈ news, p u)
    (hm : 0 < m) (h63 : xs.length + m ≤ maxLen) (hbytes : (xs.length + m) * bytes ≤ 140737488355328) (hbase : base ≤ w.heap.size) (H : Nat) (hH : w.heap.size = H)
    (h : ∀ g cap w', OwnP w' base e p (.slice (some ⟨g, 0, none⟩) (xs.length + m) cap) (xs ++ news) → w.grownBy w' v.ownBlock → (v.ownBlock = some g ∨ g = H) → g < w'.heap.size → K (a.put o.dst (.slice (some ⟨g, 0, none⟩) (xs.length + m) cap)) w') :
    if Region.wanted o (yielded ops a.tmps) = true then Oper.wp P o a w K Q else E := by
  have hw : Region.wanted o (yielded ops a.tmps) = true := by simp [Region.wanted, hgd]
  rw [if_pos hw]
  obtain ⟨g, cap, w', hr, h2, h3, h4, h5⟩ := run_append_P (P := P) w t o.type base e p i z bytes ht hi hz hsize hby hzc hpz v xs hown ad m c news hl hnews h1 hp hm h63 hbytes hbase
  unfold Oper.wp execOp
  simp only [ho, resolve, invoke, builtin, Sem.run_bind, Sem.run_pure, Result.andThen_ok, List.map_toArray, List.map_cons, List.map_nil, hs, hx, hr]
  exact h g cap w' h2 h3 (by rw [← hH]; exact h4) h5
end

/-! ### the rest of a frame -/
section
variable {P : Program} {f : FuncId} {fn : Func} {ops : Array Oper} {a : Act} {w : World} {R : Ending → World → Prop}
/-- The rest of a frame, in the middle of a region, runs to its return. -/
def RestRuns (P : Program) (f : FuncId) (todo : List Item) (a : Act) (w : World) (R : Value → World → Prop) : Prop :=
  ∀ (b : Frame) (cs : List Frame), b.fn = f → b.kind = .normal → b.mode = .run → ∃ v w' fr, R v w' ∧ Steps P (lone (b.at a todo) cs w) (lone fr cs w') ∧ fr.fn = f ∧ fr.leaving P w' (.returned v)
theorem rest2_of_wp {c1 c2 : Code} {l : List Nat} {R : Value → World → Prop} (hf : P.funcs[f]? = some fn)
    (h : wpOps P ops (Exit.then (fun a w => c1.wp P (Exit.then (fun a w => c2.wp P (bodyPost P fn fun e w => ∃ v, e = .returned v ∧ R v w) a w) (bodyPost P fn fun e w => ∃ v, e = .returned v ∧ R v w)) a w) (bodyPost P fn fun e w => ∃ v, e = .returned v ∧ R v w)) l a w) :
    RestRuns P f [.inRegion ops l, .code c1, .code c2] a w R := by
  intro b cs hb hk hm
  have fin : ∀ (e : Exit) (a' : Act) (w' : World) (k : List Item) (m : Machine), (bodyPost P fn fun e w => ∃ v, e = .returned v ∧ R v w) e a' w' → (e = .normal → k = []) → Arrives P m b k cs e a' w' →
      ∃ v w' fr, R v w' ∧ Steps P m (lone fr cs w') ∧ fr.fn = f ∧ fr.leaving P w' (.returned v) := by
    intro e a' w' k m hq hke harr
    cases e with
    | normal =>
      obtain ⟨hd, v, hr, v', e1, hR⟩ := hq
      cases e1
      obtain rfl := hke rfl
      exact ⟨v, w', _, hR, Steps.trans harr (.one step_end), hb, rfl, hd, hk, fn, by rw [← hb] at hf; exact hf, hr⟩
    | ret =>
      obtain ⟨hd, v, hr, v', e1, hR⟩ := hq
      cases e1
      obtain ⟨todo, hs⟩ := harr
      exact ⟨v, w', _, hR, hs, hb, rfl, hd, hk, fn, by rw [← hb] at hf; exact hf, hr⟩
    | panic chain => obtain ⟨hd, v', e1, hR⟩ := hq; cases e1
    | exit id => exact hq.elim
    | goto l => exact hq.elim
    | outgrown => obtain ⟨v', e1, hR⟩ := hq; cases e1
  have pass : ∀ {m m₁ : Machine}, Steps P m m₁ → (∃ v w' fr, R v w' ∧ Steps P m₁ (lone fr cs w') ∧ fr.fn = f ∧ fr.leaving P w' (.returned v)) → ∃ v w' fr, R v w' ∧ Steps P m (lone fr cs w') ∧ fr.fn = f ∧ fr.leaving P w' (.returned v) := by
    rintro m m₁ h ⟨v, w', fr, h1, h2, h3⟩
    exact ⟨v, w', fr, h1, h.trans h2, h3⟩
  obtain ⟨e, a1, w1, hq, harr⟩ := wp_ops l a w h b [.code c1, .code c2] cs
  by_cases he : e = .normal
  · subst he
    refine pass harr ?_
    obtain ⟨e, a2, w2, hq, harr⟩ := hq b [.code c2] cs
    by_cases he : e = .normal
    · subst he
      refine pass harr ?_
      obtain ⟨e, a3, w3, hq, harr⟩ := hq b [] cs
      exact fin e a3 w3 [] _ hq (fun _ => rfl) harr
    · refine fin e a2 w2 [.code c2] _ ?_ (fun h => absurd h he) harr
      cases e <;> first | exact absurd rfl he | exact hq
  · refine fin e a1 w1 [.code c1, .code c2] _ ?_ (fun h => absurd h he) harr
    cases e <;> first | exact absurd rfl he | exact hq
theorem rest1_of_wp {c1 : Code} {l : List Nat} {R : Value → World → Prop} (hf : P.funcs[f]? = some fn)
    (h : wpOps P ops (Exit.then (fun a w => c1.wp P (bodyPost P fn fun e w => ∃ v, e = .returned v ∧ R v w) a w) (bodyPost P fn fun e w => ∃ v, e = .returned v ∧ R v w)) l a w) :
    RestRuns P f [.inRegion ops l, .code c1] a w R := by
  intro b cs hb hk hm
  have fin : ∀ (e : Exit) (a' : Act) (w' : World) (k : List Item) (m : Machine), (bodyPost P fn fun e w => ∃ v, e = .returned v ∧ R v w) e a' w' → (e = .normal → k = []) → Arrives P m b k cs e a' w' →
      ∃ v w' fr, R v w' ∧ Steps P m (lone fr cs w') ∧ fr.fn = f ∧ fr.leaving P w' (.returned v) := by
    intro e a' w' k m hq hke harr
    cases e with
    | normal =>
      obtain ⟨hd, v, hr, v', e1, hR⟩ := hq
      cases e1
      obtain rfl := hke rfl
      exact ⟨v, w', _, hR, Steps.trans harr (.one step_end), hb, rfl, hd, hk, fn, by rw [← hb] at hf; exact hf, hr⟩
    | ret =>
      obtain ⟨hd, v, hr, v', e1, hR⟩ := hq
      cases e1
      obtain ⟨todo, hs⟩ := harr
      exact ⟨v, w', _, hR, hs, hb, rfl, hd, hk, fn, by rw [← hb] at hf; exact hf, hr⟩
    | panic chain => obtain ⟨hd, v', e1, hR⟩ := hq; cases e1
    | exit id => exact hq.elim
    | goto l => exact hq.elim
    | outgrown => obtain ⟨v', e1, hR⟩ := hq; cases e1
  obtain ⟨e, a1, w1, hq, harr⟩ := wp_ops l a w h b [.code c1] cs
  by_cases he : e = .normal
  · subst he
    obtain ⟨e, a2, w2, hq, harr2⟩ := hq b [] cs
    obtain ⟨v, w', fr, h1, h2, h3⟩ := fin e a2 w2 [] _ hq (fun _ => rfl) harr2
    exact ⟨v, w', fr, h1, harr.trans h2, h3⟩
  · refine fin e a1 w1 [.code c1] _ ?_ (fun h => absurd h he) harr
    cases e <;> first | exact absurd rfl he | exact hq
end
end Go.Proofs.YtacimedkchjfnaaGreat
end

section
/-! Spread behind its call of shards: the walk. -/
namespace Go.Proofs.YtacimedkchjfnaaGreat
open Go.RowKit
set_option linter.unusedSimpArgs false
set_option linter.unusedVariables false
attribute [local go_sem ↓] Go.wp_at_zero Go.wp_at_succ

theorem inf9 : (Tryz.prog.info? 9).map (fun i => (i.zero, i.size, i.bytes)) = some (some (.string ⟨#[]⟩), 1, 16) := by kernel_rfl
def IsStr (v : Value) : Prop := ∃ s, v = .string s
/-- The keys of a shard, in order. -/
def spreadF (L : List ByteArray) (n : Int) (s : Nat) : List ByteArray := L.filter fun k => decide (shardN k n = s)
theorem spreadF_snoc {L : List ByteArray} {n : Int} {k : Nat} {d : ByteArray} (h : L[k]? = some d) (s : Nat) : spreadF (L.take (k + 1)) n s = if shardN d n = s then spreadF (L.take k) n s ++ [d] else spreadF (L.take k) n s := by
  unfold spreadF
  rw [List.take_add_one, h, List.filter_append]
  by_cases e : shardN d n = s <;> simp [e]
/-- Rows of texts: the block of slices; each slice a row of its own. -/
structure RowsAt (w : World) (base Ob m : Nat) (vs : List Value) (f : Nat → List ByteArray) : Prop where
  len : vs.length = m
  out : w.heap[Ob]? = some (.cells vs.toArray 22)
  own : ∀ (s : Nat) v, vs[s]? = some v → OwnP w base 9 IsStr v ((f s).map .string)
  apart : ∀ (s s' : Nat) (v v' : Value) (b : Nat), s ≠ s' → vs[s]? = some v → vs[s']? = some v' → v.ownBlock = some b → v'.ownBlock ≠ some b
theorem OwnP.setCell_other {w : World} {base : Nat} {e : TypeId} {p : Value → Prop} {v : Value} {xs : List Value} (h : OwnP w base e p v xs) {a : Addr} (ha : v.ownBlock ≠ some a.block) (u : Value) : OwnP (w.setCell a u) base e p v xs := by
  rcases h with h | ⟨g, cap, cur, h1, h2, h3, h4⟩
  · exact .inl h
  · refine .inr ⟨g, cap, cur, h1, h2, ?_, h4⟩
    rw [Below.heap_setCell _ _ _ _ (fun e => ha (by rw [h1]; simp [Value.ownBlock, e]))]
    exact h3
theorem rows_step {w wr w1 : World} {L : List ByteArray} {nv : Int} {m Ob k q gg cap : Nat} {d : ByteArray} {v : Value} {vs : List Value} (hgr : w.grownBy wr (some Ob)) (hvs : RowsAt wr w.heap.size Ob m vs (spreadF (L.take k) nv)) (hv : vs[q]? = some v)
    (hq : shardN d nv = q) (hd : L[k]? = some d) (hO : Ob < w.heap.size) {S : Value} (hS : S = .slice (some ⟨gg, 0, none⟩) ((spreadF (L.take k) nv q).length + 1) cap)
    (hown1 : OwnP w1 w.heap.size 9 IsStr S ((spreadF (L.take k) nv q).map Value.string ++ [.string d])) (hgrow : (wr.alloc (.cells #[.string d] 9)).drew.grownBy w1 v.ownBlock) (hat : v.ownBlock = some gg ∨ gg = wr.heap.size + 1) :
    w.grownBy (w1.setCell ⟨Ob, q, none⟩ S) (some Ob) ∧ ∃ vs', RowsAt (w1.setCell ⟨Ob, q, none⟩ S) w.heap.size Ob m vs' (spreadF (L.take (k + 1)) nv) := by
  have hown := hvs.own _ _ hv
  have hne : v.ownBlock ≠ some Ob := fun e => by have := hown.lt Ob e; omega
  have hgg : S.ownBlock = some gg := by rw [hS]; rfl
  have hggO : gg ≠ Ob := fun e => by have := hown1.lt gg hgg; omega
  have hsz := hgr.size
  have hsz1 : wr.heap.size + 1 ≤ w1.heap.size := by have := hgrow.size; rw [show (wr.alloc (.cells #[.string d] 9)).drew.heap.size = wr.heap.size + 1 from Array.size_push ..] at this; exact this
  have old : ∀ b, b < wr.heap.size → v.ownBlock ≠ some b → w1.heap[b]? = wr.heap[b]? := fun b hb hn => by
    rw [hgrow.block b (by rw [show (wr.alloc (.cells #[.string d] 9)).drew.heap.size = wr.heap.size + 1 from Array.size_push ..]; omega) (Ne.symm hn)]
    exact Below.heap_alloc wr _ b hb
  have hOut : w1.heap[Ob]? = some (.cells vs.toArray 22) := (old Ob (by omega) hne).trans hvs.out
  refine ⟨⟨hgrow.os.trans hgr.os, hgrow.tape.trans hgr.tape, hgrow.output.trans hgr.output, by rw [show (w1.setCell ⟨Ob, q, none⟩ S).heap.size = w1.heap.size by simp [World.setCell]]; omega, fun b hb hn => ?_⟩, vs.set q S, ⟨by rw [List.length_set]; exact hvs.len, ?_, fun s u hu => ?_, fun s s' u u' b hss hu hu' hb => ?_⟩⟩
  · rw [Below.heap_setCell _ _ _ _ (fun e => hn (by rw [e]))]
    rw [old b (by omega) (fun e => by have := hown.lt b e; omega)]
    exact hgr.block b hb hn
  · simp [World.setCell, hOut, Array.getElem?_modify]
  · rw [spreadF_snoc hd s]
    rw [List.getElem?_set] at hu
    split at hu
    · rename_i e
      subst e
      split at hu
      · cases hu
        rw [if_pos hq]
        refine OwnP.setCell_other ?_ (by rw [hgg]; simpa using hggO) _
        rw [List.map_append]
        exact hown1
      · cases hu
    · rename_i e
      rw [if_neg (fun e' => e (by rw [← hq, e']))]
      have ho := hvs.own _ _ hu
      refine OwnP.setCell_other (((ho.alloc (.cells #[.string d] 9)).drew).kept hgrow ?_) (fun e' => by have := ho.lt _ e'; exact absurd this.1 (by show ¬ w.heap.size ≤ Ob; omega)) _
      cases hb : u.ownBlock with
      | none => exact .inl rfl
      | some b => exact .inr (fun e' => hvs.apart s q u v b (Ne.symm e) hu hv hb e'.symm)
  · rw [List.getElem?_set] at hu hu'
    have key : ∀ (r : Nat) (z : Value), q ≠ r → vs[r]? = some z → z.ownBlock ≠ some gg := fun r z hr hz e => by
      rcases hat with h | h
      · exact hvs.apart q r v z gg hr hv hz h e
      · have := (hvs.own _ _ hz).lt gg e
        omega
    split at hu
    · rename_i e
      subst e
      split at hu
      · cases hu
        rw [if_neg hss] at hu'
        rw [hgg] at hb
        cases hb
        exact key s' u' hss hu'
      · cases hu
    · rename_i e
      split at hu'
      · rename_i e'
        subst e'
        split at hu'
        · cases hu'
          rw [hgg]
          intro e2
          cases e2
          exact key s u e hu hb
        · cases hu'
      · exact hvs.apart s s' u u' b hss hu hu' hb
noncomputable def body9 : Code := Tryz.f9.body.getD .skip
noncomputable def ops92 : Array Oper := match body9 with
  | .seq _ (.seq _ (.seq (.seq (.region _ ops _) _) _)) => ops
  | _ => #[]
noncomputable def blk9 : Code := match body9 with
  | .seq _ (.seq _ (.seq (.seq _ c) _)) => c
  | _ => .skip
noncomputable def end9 : Code := match body9 with
  | .seq _ (.seq _ (.seq _ c)) => c
  | _ => .skip
/-- Spread's slots behind its call of shards. -/
def T9 (keys : Value) (nv : Int) (m Ob C N : Nat) : Array Value :=
  #[keys, .int .i64 nv, undef, undef, .slice none 0 0, .slice (some ⟨Ob, 0, none⟩) m m, undef, undef, .int .i64 nv, .int .i64 m, .slice (some ⟨Ob, 0, none⟩) m m, keys, .int .i64 nv, .slice (some ⟨C, 0, none⟩) N N,
    undef, undef, undef, undef, undef, undef, undef, undef, undef, undef, undef, undef, undef, undef, undef, undef, undef, undef, undef, undef, undef]
set_option maxRecDepth 20000 in
set_option maxHeartbeats 8000000 in
theorem rest9 {w : World} {keys : Value} {L : List ByteArray} {nv : Int} {m Ob C : Nat} (hm : m = clipI nv) (hN : L.length ≤ 1000000) (hK : StrAt w keys L)
    (hC : ∀ (k : Nat) s, L[k]? = some s → w.cell? ⟨C, k, none⟩ = some (.int .i64 (shardN s nv : Nat))) (hO : w.heap[Ob]? = some (.cells (List.replicate m (.slice none 0 0)).toArray 22)) :
    RestRuns Tryz.prog 9 [.inRegion ops92 [3, 4], .code blk9, .code end9] ⟨T9 keys nv m Ob C L.length, []⟩ w (fun v w' => v = .slice (some ⟨Ob, 0, none⟩) m m ∧ w.grownBy w' (some Ob) ∧ ∃ vs, RowsAt w' w.heap.size Ob m vs (spreadF L nv)) := by
  refine rest2_of_wp Tryz.func9 ?_
  obtain ⟨A, c, rfl, hl, hr⟩ := hK
  have HM := Asd.mk hm
  clear hm
  rw [show wpOps Tryz.prog ops92 _ [3, 4] = _ from wpOps_eq_wpList [ops92.getD 3 default, ops92.getD 4 default] 3 (by
    intro j
    match j with
    | 0 => rfl
    | 1 => rfl
    | j + 2 => simp only [List.getElem?_cons_succ, List.getElem?_nil]; rw [Array.getElem?_eq_none]; simp only [ops92, body9, Tryz.f9, Option.getD_some]; simp; omega)]
  simp only [ops92, blk9, end9, body9, Tryz.f9, Option.getD_some, T9]
  go_wp2
  have HC := Asd.mk hC
  have HR := Asd.mk hr
  have HN := Asd.mk hN
  have HO := Asd.mk hO
  have H0 : Asd (w.grownBy w (some Ob) ∧ ∃ vs, RowsAt w w.heap.size Ob m vs (spreadF (L.take 0) nv)) := ⟨World.grownBy.refl _ _, List.replicate m (.slice none 0 0), ⟨by simp, hO, fun s v h => by
      have := List.mem_of_getElem? h
      rw [List.mem_replicate] at this
      rw [this.2]
      exact ownP_nil, fun s s' v v' b _ h _ hb => by
      have := List.mem_of_getElem? h
      rw [List.mem_replicate] at this
      rw [this.2] at hb
      cases hb⟩⟩
  clear hC hr hO hN
  go_loopg [15] L.length (fun kq v15 wr => ∃ k : Nat, v15 = .int .i64 (k : Int) ∧ Asd (kq + k = L.length) ∧ Asd (w.grownBy wr (some Ob) ∧ ∃ vs, RowsAt wr w.heap.size Ob m vs (spreadF (L.take k) nv)))
  case atStart => exact ⟨0, rfl, ⟨by omega⟩, H0⟩
  case round =>
    clear H0
    obtain ⟨k, rfl, HK, HW⟩ := hrel
    have hk := HK.out
    cases gk with
    | zero =>
      obtain rfl : k = L.length := by omega
      clear hk
      have hlt2 : decide (L.length < L.length) = false := by simp
      go_wp2
      go_ret
      refine ⟨_, rfl, rfl, ?_⟩
      have := HW.out
      rwa [List.take_length] at this
    | succ k1 =>
      have hlt : k < L.length := by omega
      have hlt2 : decide (k < L.length) = true := decide_eq_true hlt
      obtain ⟨d, hd⟩ : ∃ d, L[k]? = some d := ⟨_, List.getElem?_eq_getElem hlt⟩
      obtain ⟨gK, oK, rfl, hgK, hcellK⟩ := HR.out (by omega)
      have hkey := hcellK k d hd
      have hcC := HC.out k d hd
      obtain ⟨hgr, vs, hvs⟩ := HW.out
      have hsm : shardN d nv < m := by rw [HM.out]; exact shardN_lt d nv
      obtain ⟨v, hv⟩ : ∃ v, vs[shardN d nv]? = some v := ⟨_, List.getElem?_eq_getElem (by rw [hvs.len]; exact hsm)⟩
      have neK : gK ≠ Ob := fun e => by
        subst e
        rw [show w.cell? ⟨gK, oK + k, none⟩ = _ from by simp [World.cell?, HO.out]; rfl] at hkey
        rw [Array.getElem?_replicate] at hkey
        split at hkey <;> cases hkey
      have neC : C ≠ Ob := fun e => by
        subst e
        rw [show w.cell? ⟨C, k, none⟩ = _ from by simp [World.cell?, HO.out]; rfl] at hcC
        rw [Array.getElem?_replicate] at hcC
        split at hcC <;> cases hcC
      have c1 : wr.cell? ⟨gK, oK + k, none⟩ = some (.string d) := hgr.cell hkey (by simpa using neK)
      have c2 : wr.cell? ⟨C, k, none⟩ = some (.int .i64 (shardN d nv : Nat)) := hgr.cell hcC (by simpa using neC)
      have c3 : wr.cell? ⟨Ob, shardN d nv, none⟩ = some v := by simp [World.cell?, hvs.out, hv]
      have hown := hvs.own _ _ hv
      have hsz := hgr.size
      have HV := Asd.mk (And.intro hvs hv)
      have HD := Asd.mk hd
      have HG := Asd.mk hgr
      have hKlt : gK < wr.heap.size := Nat.lt_of_lt_of_le hgK hsz
      have HKW := Asd.mk hgK
      have hOlt : Ob < w.heap.size := (Array.getElem?_eq_some_iff.1 HO.out).1
      have HL : Asd (spreadF (L.take k) nv (shardN d nv) = spreadF (L.take k) nv (shardN d nv)) := ⟨rfl⟩
      clear hvs hv hd hgr hcellK hkey hcC HW hgK
      have hs0 : Asd (spreadF (L.take (k + 1)) nv = fun s => if shardN d nv = s then spreadF (L.take k) nv s ++ [d] else spreadF (L.take k) nv s) := ⟨funext fun s => spreadF_snoc HD.out s⟩
      have hqi : (0 : Int) ≤ ((shardN d nv : Nat) : Int) := Int.natCast_nonneg _
      have hqm : ((shardN d nv : Nat) : Int) < (m : Int) := by omega
      have hki : (0 : Int) ≤ (k : Int) := Int.natCast_nonneg _
      have hkl : (k : Int) < (L.length : Int) := by omega
      generalize hq : shardN d nv = q at *
      have HQ := Asd.mk hq
      clear hq
      go_wp2_with fail
      have hfr : wr.frozen? ⟨Ob, q, none⟩ = false := by simp [World.frozen?, HV.out.1.out]
      obtain ⟨i0, hi0, hz0, hz1, hz2⟩ := info_parts inf9
      have hcnt : ((spreadF (L.take k) nv q).map Value.string).length ≤ 1000000 := by rw [List.length_map]; unfold spreadF; have h1 := List.length_filter_le (fun k => decide (shardN k nv = q)) (L.take k); have h2 := HN.out; rw [List.length_take] at h1; omega
      have hcap : ((spreadF (L.take k) nv q).map Value.string).length + 1 ≤ maxLen := by unfold maxLen; omega
      have hbyt : (((spreadF (L.take k) nv q).map Value.string).length + 1) * 16 ≤ 140737488355328 := by omega
      have HO2 : Asd (v.ownBlock ≠ some Ob) := ⟨fun e => by have := hown.lt Ob e; omega⟩
      have HK2 : Asd (v.ownBlock ≠ some gK) := ⟨fun e => by have := hown.lt gK e; have := HKW.out; omega⟩
      have hfz : (wr.alloc (.cells #[.string d] 9)).drew.frozen? ⟨Ob, q, none⟩ = false := by
        have := Below.heap_alloc wr (.cells #[.string d] 9) Ob (by omega)
        show (wr.alloc (.cells #[.string d] 9)).frozen? ⟨Ob, q, none⟩ = false
        rw [World.frozen?_of_block (w := wr) this]
        exact hfr
      have hcz : (wr.alloc (.cells #[.string d] 9)).drew.cell? ⟨Ob, q, none⟩ = some v := by
        have := Below.heap_alloc wr (.cells #[.string d] 9) Ob (by omega)
        show (wr.alloc (.cells #[.string d] 9)).cell? ⟨Ob, q, none⟩ = some v
        rw [World.cell?_of_block (w := wr) this]
        exact c3
      go_region_law
        ((refine step_append_P _ (by rfl) _ _ _ (by rfl) w.heap.size 9 IsStr i0 _ 16 Tryz.underlying22 hi0 hz0 hz1 hz2 rfl ⟨_, rfl⟩ v ((spreadF (L.take k) nv q).map .string) (by rfl) ((hown.alloc _).drew)
            ⟨wr.heap.size, 0, none⟩ 1 1 [.string d] (by rfl) (by rfl) (World.news_of_block (cs := #[.string d]) (t := 9) (fr := (0, 0)) (heap_alloc_new wr _)) (by simp [Value.oneCell']) (by intro u hu; simp at hu; exact ⟨_, hu⟩)
            (by omega) hcap (hbyt) (by simp; omega) (wr.heap.size + 1) (by simp) ?_; intro gg cap w1 hown1 hgrow hat hlt1; have hc5 : w1.cell? ⟨Ob, q, none⟩ = some v := (hgrow.cell_far _ (by simp; omega) (Ne.symm HO2.out)).trans hcz; have hf5 : w1.frozen? ⟨Ob, q, none⟩ = false := (hgrow.frozen_far _ (by simp; omega) (Ne.symm HO2.out)).trans hfz))
      all_goals
        have HW2 : Asd (w.grownBy (w1.setCell ⟨Ob, q, none⟩ (.slice (some ⟨gg, 0, none⟩) ((spreadF (L.take k) nv q).length + 1) cap)) (some Ob) ∧ ∃ vs', RowsAt (w1.setCell ⟨Ob, q, none⟩ (.slice (some ⟨gg, 0, none⟩) ((spreadF (L.take k) nv q).length + 1) cap)) w.heap.size Ob m vs' (spreadF (L.take (k + 1)) nv)) :=
          ⟨rows_step HG.out HV.out.1 HV.out.2 HQ.out HD.out hOlt rfl (by rw [List.length_map] at hown1; exact hown1) hgrow hat⟩
        generalize w1.setCell ⟨Ob, q, none⟩ (.slice (some ⟨gg, 0, none⟩) ((spreadF (L.take k) nv q).length + 1) cap) = w2 at HW2 ⊢
        clear hown1 hgrow hat hlt1 hc5 hf5 hown c1 c2 c3 hfr hfz hcz w1
        go_wp2
        go_roundg k1
        case measure => omega
        case rel => exact ⟨k + 1, by go_num, ⟨by have := HK.out; omega⟩, HW2⟩
end Go.Proofs.YtacimedkchjfnaaGreat
end
