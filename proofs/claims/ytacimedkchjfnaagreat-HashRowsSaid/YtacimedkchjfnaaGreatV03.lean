/- Part 3 of the proof: B12, B13, B14, C0, C1. -/
import Derived.Test.YtacimedkchjfnaaGreatV02
import Derived.Test.YtacimedkchjfnaaGreatProg
import Derived.Conc.WgGenW
import Derived.Conc.CompanyMem
section
/-! The phase: goroutine 0's steps. -/
namespace Go.Proofs.YtacimedkchjfnaaGreat
set_option linter.unusedSimpArgs false
set_option linter.unusedVariables false
set_option linter.unusedSectionVars false
open Go.Conc
open Go.ConcR (KK wgBlock WgAt stA smA rd wr deafBehind_cons deafBehind_one)
open Go.ConcN (WgLive PermW fork_knows RelBy upd upd_same upd_ne sumTo sumTo_upd sumTo_congr le_sumTo)
def wakeT : WT → WT
  | .wait => .sel 0
  | τ => τ
theorem wakeT_same (τ : WT) : (wakeT τ).deaf = τ.deaf ∧ (wakeT τ).stage = τ.stage ∧ (wakeT τ).has = τ.has ∧ (wakeT τ).blk = τ.blk ∧ wakeT τ ≠ .wait := by cases τ <;> simp [wakeT, WT.deaf, WT.stage, WT.has, WT.blk]
namespace Ph
section
variable {x : Ph} {P : Program} {AnchS Anch : Goroutine → Prop} {j : Nat} {gs gs' : Array Goroutine} {w w' : World} {t ops u : Trace} {D D' : Nat → WT} {tag tag' : MT} {q : Nat → Nat} {ob oj ob' : Nat → Option Nat} {a a' g g' : Goroutine} {es : Array Event} {sl : Option (Nat × Nat)}

theorem nxt0 {k : Nat} (hrun : runT P (crowd gs w sl) k = (.next (crowd gs' w' sl), ops)) (hD : ∀ k, k < j → (D' k).stage = (D k).stage) (hlt : rank x.N tag' < rank x.N tag ∨ (rank x.N tag' = rank x.N tag ∧ (∀ k, k < j → (D' k).fuel = (D k).fuel) ∧ tag'.fuel < tag.fuel))
    (h0 : gs'[0]? = some a') (hm : x.MSit P AnchS Anch tag' a' w') (hcom : x.Com P AnchS j gs' w' (t ++ ops) D' tag' q ob' oj) (hmode : x.Mode j D' w' tag') :
    x.Nxt P AnchS Anch (meas x.N x.c j D tag q) t (runT P (crowd gs w sl) k) := by
  refine ⟨_, _, hrun, .inr ⟨meas x.N x.c j D' tag' q, ?_, _, w', sl, j, D', tag', q, ob', oj, a', rfl, h0, hm, hcom, hmode, rfl⟩⟩
  have e1 : (sumTo j fun i => (D' i).stage) = sumTo j fun i => (D i).stage := sumTo_congr hD
  unfold meas
  rw [e1]
  rcases hlt with h | ⟨h1, h2, h3⟩
  · exact Prod.Lex.left _ _ (by omega)
  · have e2 : (sumTo j fun i => (D' i).fuel) = sumTo j fun i => (D i).fuel := sumTo_congr h2
    rw [h1, e2]
    exact Prod.Lex.right _ (by omega)
theorem ok0_of_evM (G : x.Geo) (hw : x.L0 ≤ w.heap.size) {e : Event} (h : x.EvM e) (fn : FuncId) (pos : String) : x.Ok0 { g := 0, fn, pos, act := .ofEvent e } ∧ (MemAct.ofEvent e).low w.heap.size := by
  have hg := G.wg
  rcases h with ⟨ad, wrr, rfl, hb⟩ | ⟨ad, hb, rfl | rfl⟩ | ⟨ad, rfl, hf, hn⟩ | hmu
  · refine ⟨⟨rfl, by simp [ofEvent_cellA], fun b hb' => .inl ?_⟩, ?_⟩
    · simp only [ofEvent_cellA, MemAct.touch?, Option.some.injEq] at hb'
      subst hb'
      exact ⟨⟨ad, rfl, hb⟩, by simp⟩
    · rw [ofEvent_cellA]; show ad.block < _; omega
  · refine ⟨⟨rfl, by simp [MemAct.ofEvent, Go.ConcR.mk], fun b hb' => .inl ?_⟩, ?_⟩
    · simp only [MemAct.ofEvent, Go.ConcR.mk, MemAct.touch?, Option.some.injEq] at hb'
      subst hb'
      exact ⟨⟨ad, rfl, hb⟩, by simp⟩
    · show ad.block < _; omega
  · refine ⟨⟨rfl, by simp [MemAct.ofEvent, Go.ConcR.mk], fun b hb' => .inl ?_⟩, ?_⟩
    · simp only [MemAct.ofEvent, Go.ConcR.mk, MemAct.touch?, Option.some.injEq] at hb'
      subst hb'
      exact ⟨⟨ad, rfl, hb⟩, by simp⟩
    · show ad.block < _; omega
  · refine ⟨⟨rfl, by simp [ofEvent_cellA], fun b hb' => .inr ?_⟩, ?_⟩
    · simp only [ofEvent_cellA, MemAct.touch?, Option.some.injEq] at hb'
      subst hb'
      exact ⟨rfl, .inl ⟨ad, rfl, hf, hn⟩⟩
    · rw [ofEvent_cellA]; show ad.block < _; have := hf.1; omega
  · exact ⟨⟨rfl, mute_norel hmu _, fun b hb' => (by rw [touch_mute hmu] at hb'; cases hb')⟩, low_mute hmu _⟩
theorem sem_evM {e : Event} (h : e ∈ semEvents (smA x.Wg)) : x.EvM e := by
  simp only [semEvents, List.mem_toArray, List.mem_cons, List.not_mem_nil, or_false] at h
  rcases h with rfl | rfl | rfl | rfl
  · exact .inr (.inr (.inr rfl))
  · exact .inl ⟨_, _, rfl, rfl⟩
  · exact .inl ⟨_, _, rfl, rfl⟩
  · exact .inr (.inr (.inr rfl))
theorem rdwr_evM {e : Event} (h : e ∈ (#[rd (stA x.Wg), wr (stA x.Wg)] : Array Event)) : x.EvM e := by
  simp only [List.mem_toArray, List.mem_cons, List.not_mem_nil, or_false] at h
  rcases h with rfl | rfl
  · exact .inl ⟨_, _, rfl, rfl⟩
  · exact .inl ⟨_, _, rfl, rfl⟩
section
variable (G : x.Geo) (K : x.WkS P AnchS) (ha : gs[0]? = some a) (h : x.Com P AnchS j gs w t D tag q ob oj) (hmode : x.Mode j D w tag)
include G K ha h hmode
/-- A step of goroutine 0's own; the world turns in the group's block alone. -/
theorem step0 {tag' : MT} (hgo : stepG P true a w = .go a' w' es) (hup : Upd (fun k => k = x.Wg) w w') (hsz : w'.heap.size = w.heap.size) (hl : WgLive x.ty x.Wg w') (hL : w'.heap[x.Wg]? = w.heap[x.Wg]? ∨ ∀ k, k < j → (D k).stage ≠ 3)
    (hm' : x.MSit P AnchS Anch tag' a' w') (hev : ∀ e ∈ es, x.EvM e) (hdf : deafBehind tag.deaf es = tag'.deaf) (hsent : tag'.sent x.N = tag.sent x.N) (hcl : tag'.closed = tag.closed) (hbeg : j = tag'.begun)
    (hlt : rank x.N tag' < rank x.N tag ∨ (rank x.N tag' = rank x.N tag ∧ tag'.fuel < tag.fuel)) (hmode' : x.Mode j D w' tag') :
    x.Nxt P AnchS Anch (meas x.N x.c j D tag q) t (runT P (crowd gs w sl) 0) := by
  have hc1 := G.c1
  obtain ⟨hwi, hrm0, bj, be, bc, hcell⟩ := wg_upd G h.wi hup hl
  have hlt0 : 0 < gs.size := by rw [h.size]; omega
  have hops : ∀ op ∈ MemOp.ofEvents 0 a.frame.fn a.frame.place es, op.g = 0 := fun op ho => by obtain ⟨e, _, rfl⟩ := Go.Conc.mem_ofEvents ho; rfl
  have hwk := h.wk0 (a := a) (a' := a') (w' := w') G K (fun k hk => wrel_of_upd hup h.wi (fun b e hf => hf.2.1 e) hl (pay_of_block h.wi.pay bc) (fun b' hb' => ⟨(h.blkb k b' hk hb').2.1, fun e => by have := (h.blkb k b' hk hb').1; have := G.wg; omega⟩) (fun n _ => hcell n) fun e => hL.resolve_right fun h' => h' k hk e) bj be
  have hcom := h.core0 G (gs' := (gs.map (woken P a a' w')).setIfInBounds 0 a') (w' := w') (u := MemOp.ofEvents 0 a.frame.fn a.frame.place es) (tag' := tag') (D' := D) (by simp)
    (fun k hk hkc => by
      rw [get_ms _ _ (by omega)]
      cases e : gs[k]? with
      | none => rfl
      | some y => rw [Option.map_some, woken_quitsD (h.old k y hk hkc e)])
    hwk (fun _ _ => ⟨rfl, rfl, rfl, rfl⟩) hwi hsz bj (by rw [be, hcl]; exact h.ech) hops
    (fun op ho => by obtain ⟨e, he, rfl⟩ := Go.Conc.mem_ofEvents ho; exact ok0_of_evM G hwi.size (hev e he) _ _)
    (by rw [Deaf_own, h.d0, hdf]) hsent bc (by rw [hcl]; exact h.nw) hbeg
  exact nxt0 (runT_crowd_go ha hgo) (fun _ _ => rfl) (hlt.imp id fun ⟨h1, h2⟩ => ⟨h1, fun _ _ => rfl, h2⟩) (get_ms_same _ _ hlt0) hm' hcom hmode'
/-- .. the world stands. -/
theorem idleM {tag' : MT} (hgo : stepG P true a w = .go a' w' es) (hd : x.DM tag.deaf w w' es) (hm' : x.MSit P AnchS Anch tag' a' w) (hdf : deafBehind tag.deaf es = tag'.deaf) (hsent : tag'.sent x.N = tag.sent x.N) (hcl : tag'.closed = tag.closed) (hbeg : j = tag'.begun)
    (hlt : rank x.N tag' = rank x.N tag ∧ tag'.fuel < tag.fuel) (hmode' : x.Mode j D w tag') : x.Nxt P AnchS Anch (meas x.N x.c j D tag q) t (runT P (crowd gs w sl) 0) := by
  obtain ⟨rfl, hev⟩ := hd
  exact step0 G K ha h hmode hgo (Upd.refl w') rfl h.wi.live (.inl rfl) hm' hev hdf hsent hcl hbeg (.inr hlt) hmode'
/-- THE END IS CLOSED. -/
theorem closeStep {m : Nat} (htag : tag = .snd 0 0 m) (hstop : x.AtCl P Anch 0 a w) : x.Nxt P AnchS Anch (meas x.N x.c j D tag q) t (runT P (crowd gs w sl) 0) := by
  subst htag
  have hc1 := G.c1
  have hj3 : j = 3 := h.beg
  subst hj3
  obtain ⟨_, hrn, hmw, hcl⟩ := hstop
  obtain ⟨sE, rE, hE⟩ := h.ech
  obtain ⟨a', hgo, hrn', m', hs'⟩ := hcl sE rE hE
  have hup := upd_setChan w x.E 0 #[] true sE rE false
  have hL := h.wi.size
  have bk : ∀ b, b < x.L0 → b ≠ x.E → (w.setChan x.E 0 #[] true sE rE false).heap[b]? = w.heap[b]? := fun b hb hn => hup.block b (by omega) hn
  have bwg := bk _ G.wg G.wge
  have bc := bk _ G.c G.ce
  have bj := bk _ G.j G.je
  have be := heap_chan w x.E 0 #[] true sE rE false (by have := G.e; omega)
  have hl := live_of_block h.wi.live bwg
  have hp := pay_of_block h.wi.pay bc
  have hS : ∀ b, b = x.E → ¬ x.Fx b := fun b e hf => hf.2.2.2.2 e
  have hwi := hup.wi h.wi hS hl hp
  have hlt0 : 0 < gs.size := by rw [h.size]; omega
  cases hmode with
  | reg h0 => exact h0.elim
  | last L h0 => exact h0.elim
  | snd hEarly hwg =>
  generalize hw' : w.setChan x.E 0 #[] true sE rE false = w' at *
  have hops : ∀ op ∈ MemOp.ofEvents 0 a.frame.fn a.frame.place #[⟨.obj x.E, false, true⟩, ⟨.obj x.E, true, true⟩], op.g = 0 ∧ (op.act = .access ⟨.obj x.E, false, true⟩ ∨ op.act = .close x.E) := fun op ho => by
    obtain ⟨e, he, rfl⟩ := Go.Conc.mem_ofEvents ho
    simp only [List.mem_toArray, List.mem_cons, List.not_mem_nil, or_false] at he
    rcases he with rfl | rfl
    · exact ⟨rfl, .inl rfl⟩
    · exact ⟨rfl, .inr rfl⟩
  have hwk : ∀ k, k < 3 → ∃ g, ((gs.map (woken P a a' w')).setIfInBounds 0 a')[x.c + k]? = some g ∧ x.WSit P AnchS (wakeT (D k)) g w' := by
    intro k hk
    obtain ⟨gk, h1, h2⟩ := h.wk k hk
    have h3 := h2.rely (wrel_of_upd hup h.wi hS hl hp (fun b' hb' => ⟨(h.blkb k b' hk hb').2.1, fun e => by have := (h.blkb k b' hk hb').1; have := G.e; omega⟩) (fun n _ => cell_of_block bc n) fun _ => bwg)
    refine ⟨woken P a a' w' gk, by rw [get_ms _ _ (by omega), h1]; rfl, ?_⟩
    cases hDk : D k with
    | wait =>
      rw [hDk] at h3
      obtain ⟨g₂, rfl, hS2, _⟩ := h3
      have e : woken P a a' w' (parked g₂ x.cs .select) = { parked g₂ x.cs .select with status := .running } := by
        unfold woken
        rw [if_pos (by simp [hmw, hrn'])]
        exact again_some_closed (k := 1) (c := x.E) (z := x.ze) rfl be
      rw [e]
      exact GD.stop fun w₁ _ => ⟨rfl, K.tries g₂ hS2⟩
    | _ =>
      rw [hDk] at h3
      rw [h3.wake K ⟨_, _, bj.trans h.jch.choose_spec.choose_spec⟩ (fun e => by cases e)]
      exact h3
  have hcom := h.core0 G (gs' := (gs.map (woken P a a' w')).setIfInBounds 0 a') (w' := w') (u := MemOp.ofEvents 0 a.frame.fn a.frame.place #[⟨.obj x.E, false, true⟩, ⟨.obj x.E, true, true⟩]) (tag' := .anch 3 0 m') (D' := fun k => wakeT (D k)) (by simp)
    (fun k hk hkc => by
      rw [get_ms _ _ (by omega)]
      cases e : gs[k]? with
      | none => rfl
      | some y => rw [Option.map_some, woken_quitsD (h.old k y hk hkc e)])
    hwk (fun k _ => let e := wakeT_same (D k); ⟨e.1, e.2.1, e.2.2.1, e.2.2.2.1⟩) hwi (by rw [← hw']; simp [World.setChan]) bj ⟨_, _, be⟩ (fun op ho => (hops op ho).1)
    (fun op ho => by
      obtain ⟨h1, h2⟩ := hops op ho
      refine ⟨⟨h1, by rcases h2 with h2 | h2 <;> rw [h2] <;> simp, fun b hb => by
        rcases h2 with h2 | h2 <;> rw [h2] at hb
        · obtain rfl := Option.some.inj hb
          exact .inr ⟨rfl, .inr ⟨_, rfl⟩⟩
        · cases hb⟩, ?_⟩
      rcases h2 with h2 | h2 <;> rw [h2] <;> show x.E < _
      all_goals (have := G.e; have := hwi.size; omega))
    (by rw [deaf_quiet _ _ _ fun op ho => by rcases (hops op ho).2 with h2 | h2 <;> rw [h2] <;> simp, h.d0]; rfl) (by simp [MT.sent]) bc (fun _ k _ => (wakeT_same (D k)).2.2.2.2) rfl
  have hc3 : cnts 3 (fun k => wakeT (D k)) = 3 := by
    have e : ∀ k, k < 3 → (wakeT (D k)).cnt = 1 := fun k hk => by
      have := hEarly k hk
      simp only [WT.cnt, (wakeT_same (D k)).2.1]
      rw [if_pos (by omega)]
    simp only [cnts, sumTo, e 0 (by omega), e 1 (by omega), e 2 (by omega)]
  refine nxt0 (tag' := .anch 3 0 m') (D' := fun k => wakeT (D k)) (runT_crowd_go ha hgo) (fun k _ => (wakeT_same (D k)).2.1) (.inl ?_) (get_ms_same _ _ hlt0) ⟨Nat.le_refl _, hs'⟩ hcom (.anch (fun k hk => ?_) (by omega) ?_)
  · simp [rank, MT.phi]
  · rw [(wakeT_same (D k)).2.1]; have := hEarly k hk; omega
  · rw [hc3]; exact wgAt_of_block hwg bwg
/-- A JOB IS SENT: a waiting worker gets it; or goroutine 0 is parked. -/
theorem sendStep {r' m : Nat} (htag : tag = .snd (r' + 1) 0 m) (hrN : r' + 1 ≤ x.N) (hstop : x.MSnd P Anch (r' + 1) 0 a w) : x.Nxt P AnchS Anch (meas x.N x.c j D tag q) t (runT P (crowd gs w sl) 0) := by
  subst htag
  have hc1 := G.c1
  have hj3 : j = 3 := h.beg
  subst hj3
  obtain ⟨_, hrn, g₂, hcm, hF⟩ := hstop
  obtain ⟨sJ, rJ, hJ⟩ := h.jch
  have hlt0 : 0 < gs.size := by rw [h.size]; omega
  have nil0 : ∀ (fn : FuncId) (pos : String), MemOp.ofEvents 0 fn pos #[] = #[] := fun fn pos => by rw [ofEvents_eq]; simp
  cases hmode with
  | reg h0 => exact h0.elim
  | last L h0 => exact h0.elim
  | snd hEarly hwg =>
  have hall : ∀ jx k, (jx, k) ∈ partners (gs.setIfInBounds 0 ph) x.J false → ∃ i, i < 3 ∧ jx = x.c + i ∧ D i = .wait ∧ k = 0 ∧ ∃ gj, gs[jx]? = some (parked gj x.cs .select) ∧ x.FinS P AnchS gj := by
    intro jx k hjk
    obtain ⟨y, hy, hk⟩ := mem_partners.1 hjk
    rcases getElem?_stand gs 0 jx y hy with ⟨_, rfl⟩ | ⟨hne, hy⟩
    · rw [offersAt_ph] at hk; cases hk
    · rcases Nat.lt_or_ge jx x.c with hlt | hge
      · have hs := (h.old jx y (by omega) hlt hy).status
        rw [offersAt_of_not_blocked (by rcases hs with hs | hs <;> rw [hs] <;> simp)] at hk
        cases hk
      · have hkj : jx - x.c < 3 := by have := lt_size_of_get hy; rw [h.size] at this; omega
        obtain ⟨gk, h1, h2⟩ := h.wk (jx - x.c) hkj
        rw [show x.c + (jx - x.c) = jx by omega, hy] at h1
        obtain rfl := Option.some.inj h1
        by_cases hw : D (jx - x.c) = .wait
        · rw [hw] at h2
          obtain ⟨gj, rfl, _, hFj⟩ := h2
          refine ⟨jx - x.c, hkj, by omega, hw, ?_, gj, hy, hFj⟩
          have hne' : ¬ x.E = x.J := Ne.symm G.je
          simp [offersAt, parked, cs, rcase, hne', List.zipIdx_cons, List.filter_cons] at hk
          exact hk
        · rw [(h2.offers K x.J).2 hw] at hk; cases hk
  by_cases hw : ∃ i, i < 3 ∧ D i = .wait
  · -- somebody waits
    have hne : partners (gs.setIfInBounds 0 ph) x.J false ≠ [] := by
      obtain ⟨i, hi, hwt⟩ := hw
      obtain ⟨gk, h1, h2⟩ := h.wk i hi
      rw [hwt] at h2
      obtain ⟨gj, rfl, _, _⟩ := h2
      have hm : (x.c + i, 0) ∈ partners (gs.setIfInBounds 0 ph) x.J false := by
        refine mem_partners.2 ⟨_, stand_get (by omega) h1, ?_⟩
        have hne' : ¬ x.E = x.J := Ne.symm G.je
        simp [offersAt, parked, cs, rcase, hne', List.zipIdx_cons, List.filter_cons]
      intro e
      rw [e] at hm
      cases hm
    obtain ⟨jx, gj0, d, hj0, hjg, hrun⟩ := send_meets_one_of (sl := sl) (i := 0) (cs := x.cs) (shj := .select) ha hcm hJ rfl hne fun jx k hjk => by
      obtain ⟨i, _, e1, _, e2, gj, e3, _⟩ := hall jx k hjk
      exact ⟨e2, by omega, gj, e3⟩
    obtain ⟨i, hi, rfl⟩ : ∃ i, i < 3 ∧ jx = x.c + i := by
      rcases Nat.lt_or_ge jx x.c with hlt | hge
      · have hs := (h.old jx _ (by omega) hlt hjg).status
        rcases hs with hs | hs <;> cases hs
      · exact ⟨jx - x.c, by have := lt_size_of_get hjg; rw [h.size] at this; omega, by omega⟩
    obtain ⟨gk, h1, h2⟩ := h.wk i hi
    rw [hjg] at h1
    obtain rfl := Option.some.inj h1
    have hDw : D i = .wait := by
      rcases h2.status K with ⟨e, _⟩ | ⟨_, hs | ⟨hs, _⟩⟩
      · exact e
      · cases hs
      · cases hs
    rw [hDw] at h2
    obtain ⟨gj, epk, _, hFj⟩ := h2
    have hfc : ∀ c v ok, gj0.finishComm P x.cs .select c v ok = gj.finishComm P x.cs .select c v ok := fun c v ok => by
      have := congrArg (fun y : Goroutine => y.finishComm P x.cs .select c v ok) epk
      exact this
    rw [hrun, nil0, Array.empty_append]
    have hWI : x.WI ((w.at d).setChan x.J 0 #[] false (sJ + 1) (rJ + 1) false) := by
      have hup := upd_setChan (w.at d) x.J 0 #[] false (sJ + 1) (rJ + 1) false
      have hwd := wi_at h.wi d
      refine hup.wi hwd (fun b e hf => hf.2.2.2.1 e) (live_of_block hwd.live (hup.block _ (by have := G.wg; have := hwd.size; omega) G.wgj)) (pay_of_block hwd.pay (hup.block _ (by have := G.c; have := hwd.size; omega) G.cj))
    have hwg' : WgAt x.ty x.Wg ((w.at d).setChan x.J 0 #[] false (sJ + 1) (rJ + 1) false) (((3 : Nat) : Int) * KK) 0 := by
      have hup := upd_setChan (w.at d) x.J 0 #[] false (sJ + 1) (rJ + 1) false
      exact wgAt_of_block (w := w.at d) hwg (hup.block _ (by have := G.wg; have := (wi_at h.wi d).size; omega) G.wgj)
    obtain ⟨mj, hjob⟩ := hFj.job (x.N - (r' + 1)) (by omega) _ hWI
    obtain ⟨m', hM'⟩ := hF _ hWI ⟨3, Nat.le_refl _, hwg'⟩
    have hNL : NoLast 3 D := fun k hk => by have := hEarly k hk; omega
    have hcom := h.meet G rfl hrN (.inr ⟨m, rfl⟩) hi (.inl (by rw [hDw]; rfl)) (fun k hk => by rw [hDw] at hk; cases hk)
      (gs' := (gs.setIfInBounds (x.c + i) (gj0.finishComm P x.cs .select 0 (x.job (x.N - (r' + 1))) true)).setIfInBounds 0 (g₂.finishComm P (x.snd1 (x.N - (r' + 1))) .send 0 undef false))
      (u := #[{ g := 0, fn := g₂.frame.fn, pos := g₂.frame.place, act := .send x.J sJ }, { g := x.c + i, fn := gj0.frame.fn, pos := gj0.frame.place, act := .recv x.J rJ 0 },
        { g := 0, fn := g₂.frame.fn, pos := g₂.frame.place, act := .sendDone x.J sJ }, { g := x.c + i, fn := gj0.frame.fn, pos := gj0.frame.place, act := .recvDone x.J rJ }])
      (m := mj) (m' := m') (d := d) (s := sJ + 1) (rr := rJ + 1) (a' := g₂.finishComm P (x.snd1 (x.N - (r' + 1))) .send 0 undef false) (g' := gj0.finishComm P x.cs .select 0 (x.job (x.N - (r' + 1))) true) (by simp)
      (Array.getElem?_setIfInBounds_self_of_lt (by simpa using hlt0))
      (by rw [Array.getElem?_setIfInBounds_ne (by omega), Array.getElem?_setIfInBounds_self_of_lt (by rw [h.size]; omega)])
      (fun k hk0 hk => by rw [Array.getElem?_setIfInBounds_ne (by omega), Array.getElem?_setIfInBounds_ne (Ne.symm hk)])
      ⟨by omega, by rw [hfc]; exact hjob⟩ hNL
      (fun op ho => by
        simp only [List.mem_toArray, List.mem_cons, List.not_mem_nil, or_false] at ho
        rcases ho with rfl | rfl | rfl | rfl
        · exact ⟨.inl ⟨_, rfl⟩, .inl rfl⟩
        · exact ⟨.inr (.inr (.inl ⟨_, _, rfl⟩)), .inr rfl⟩
        · exact ⟨.inr (.inl ⟨_, rfl⟩), .inl rfl⟩
        · exact ⟨.inr (.inr (.inr (.inl ⟨_, rfl⟩))), .inr rfl⟩)
    refine ⟨_, _, rfl, .inr ⟨meas x.N x.c 3 (upd D i (.job (x.N - (r' + 1)) mj)) (.snd r' 0 m') q, ?_, _, _, sl, 3, upd D i (.job (x.N - (r' + 1)) mj), .snd r' 0 m', q, ob, upd oj (x.N - (r' + 1)) (some i), g₂.finishComm P (x.snd1 (x.N - (r' + 1))) .send 0 undef false, rfl, ?_, ⟨by omega, hM'⟩, hcom, .snd (fun k hk => ?_) hwg', rfl⟩⟩
    · have e1 := sumTo_upd D (.job (x.N - (r' + 1)) mj) WT.stage hi
      refine Prod.Lex.left _ _ ?_
      simp only [rank, MT.phi]
      have : (WT.job (x.N - (r' + 1)) mj).stage = 8 := rfl
      have : (D i).stage = 6 := by rw [hDw]; rfl
      omega
    · exact Array.getElem?_setIfInBounds_self_of_lt (by simpa using hlt0)
    · by_cases hki : k = i
      · subst hki; rw [upd_same]; simp [WT.stage]
      · rw [upd_ne _ _ hki]; exact hEarly k hk
  · -- nobody waits: goroutine 0 is parked
    have hp0 : partners (gs.setIfInBounds 0 ph) x.J false = [] := by
      apply List.eq_nil_iff_forall_not_mem.2
      rintro ⟨jx, k⟩ hjk
      obtain ⟨i, hi, _, hwt, _⟩ := hall jx k hjk
      exact hw ⟨i, hi, hwt⟩
    have hrun := crowd_waits (sl := sl) (i := 0) ha hcm (fun cc hcc => by
      simp only [snd1, List.mem_toArray, List.mem_cons, List.not_mem_nil, or_false] at hcc
      subst hcc
      exact ways_send_none hJ (Nat.zero_le _) hp0)
    have hcom := h.core0 G (gs' := gs.setIfInBounds 0 (parked g₂ (x.snd1 (x.N - (r' + 1))) .send)) (w' := w) (u := #[]) (tag' := .prk (r' + 1)) (D' := D) (by simp)
      (fun k hk hkc => Array.getElem?_setIfInBounds_ne (by omega))
      (fun k hk => by
        obtain ⟨gk, h1, h2⟩ := h.wk k hk
        exact ⟨gk, by rw [Array.getElem?_setIfInBounds_ne (by omega)]; exact h1, h2⟩)
      (fun _ _ => ⟨rfl, rfl, rfl, rfl⟩) h.wi rfl rfl h.ech (fun op ho => by simp at ho) (fun op ho => by simp at ho) (by rw [Array.append_empty]; exact h.d0) rfl rfl (fun e => by cases e) rfl
    refine nxt0 (tag' := .prk (r' + 1)) (D' := D) (hrun.trans (by rw [nil0])) (fun _ _ => rfl) (.inr ⟨rfl, fun _ _ => rfl, Nat.succ_pos _⟩) (Array.getElem?_setIfInBounds_self_of_lt hlt0) ⟨r', rfl, hrN, g₂, rfl, hF⟩ hcom (.prk hEarly (fun i hi e => hw ⟨i, hi, e⟩) hwg)
end
end
end Ph
end Go.Proofs.YtacimedkchjfnaaGreat
end

section
/-! The phase: goroutine 0 starts a worker, waits, acquires. -/
namespace Go.Proofs.YtacimedkchjfnaaGreat
set_option linter.unusedSimpArgs false
set_option linter.unusedVariables false
set_option linter.unusedSectionVars false
open Go.Conc
open Go.ConcR (KK wgBlock WgAt stA smA rd wr deafBehind_cons deafBehind_one)
open Go.ConcN (WgLive PermW fork_knows RelBy upd upd_same upd_ne sumTo sumTo_upd sumTo_upd_out sumTo_congr le_sumTo)
namespace Ph
section
variable {x : Ph} {P : Program} {AnchS Anch : Goroutine → Prop} {j : Nat} {gs gs' : Array Goroutine} {w w' : World} {t ops u : Trace} {D D' : Nat → WT} {tag tag' : MT} {q : Nat → Nat} {ob oj ob' : Nat → Option Nat} {a a' g g' : Goroutine} {es : Array Event} {sl : Option (Nat × Nat)}
section
variable (G : x.Geo) (K : x.WkS P AnchS) (ha : gs[0]? = some a) (h : x.Com P AnchS j gs w t D tag q ob oj) (hmode : x.Mode j D w tag)
include G K ha h hmode
/-- A WORKER IS STARTED. -/
theorem spawnStep {r m : Nat} {Nx : Goroutine → World → Prop} (htag : tag = .sp r 0 m) (hr2 : r ≤ 2) (hstop : x.AtGo P AnchS r Nx 0 a w)
    (hNx : ∀ a', Nx a' w → ∃ tag', x.MSit P AnchS Anch tag' a' w ∧ tag'.deaf = 0 ∧ tag'.sent x.N = 0 ∧ tag'.closed = false ∧ tag'.begun = 3 - r ∧ rank x.N tag' + 6 < rank x.N tag ∧ ((∃ r' d m', tag' = .sp r' d m') ∨ ∃ r' m', r = 0 ∧ tag' = .snd r' 0 m')) :
    x.Nxt P AnchS Anch (meas x.N x.c j D tag q) t (runT P (crowd gs w sl) 0) := by
  subst htag
  have hc1 := G.c1
  have hjr : j = 2 - r := h.beg
  obtain ⟨_, hrn, hwg, a', child, hgo, hcrun, hcoff, hchild, hnx⟩ := hstop
  obtain ⟨tag', hm', td, ts, tc, tb, trk, tk⟩ := hNx a' hnx
  obtain ⟨mc, hc⟩ := hchild w h.wi
  have hrun := runT_crowd_spawn (sl := sl) ha hgo
  have nil0 : ∀ (fn : FuncId) (pos : String), MemOp.ofEvents 0 fn pos #[] = #[] := fun fn pos => by rw [ofEvents_eq]; simp
  have hsz : gs.size = x.c + j := h.size
  rw [nil0, hsz] at hrun
  have hops : (((#[] : Array MemOp).push { g := 0, fn := a.frame.fn, pos := a.frame.place, act := .go (x.c + j) }).push { g := x.c + j, fn := child.frame.fn, pos := a.frame.place, act := .start }) =
      #[{ g := 0, fn := a.frame.fn, pos := a.frame.place, act := .go (x.c + j) }, { g := x.c + j, fn := child.frame.fn, pos := a.frame.place, act := .start }] := rfl
  rw [hops] at hrun
  generalize hu : (#[{ g := 0, fn := a.frame.fn, pos := a.frame.place, act := .go (x.c + j) }, { g := x.c + j, fn := child.frame.fn, pos := a.frame.place, act := .start }] : Array MemOp) = u at hrun
  have hun : ∀ op ∈ u, op.act.touch? = none ∧ op.act ≠ .mark .disable ∧ op.act ≠ .mark .enable ∧ op.act.low w.heap.size := by
    intro op ho
    rw [← hu] at ho
    simp only [List.mem_toArray, List.mem_cons, List.not_mem_nil, or_false] at ho
    rcases ho with rfl | rfl
    · exact ⟨rfl, by simp, by simp, trivial⟩
    · exact ⟨rfl, by simp, by simp, trivial⟩
  have hdf : ∀ k, Deaf (t ++ u) k = Deaf t k := fun k => deaf_quiet t k u fun op ho => ⟨(hun op ho).2.1, (hun op ho).2.2.1⟩
  have hlt0 : 0 < gs.size := by omega
  have gold : ∀ k, 0 < k → k < gs.size → ((gs.setIfInBounds 0 a').push child)[k]? = gs[k]? := fun k hk hkl => by
    rw [Array.getElem?_push, if_neg (by simp; omega), Array.getElem?_setIfInBounds_ne (by omega)]
  have g0 : ((gs.setIfInBounds 0 a').push child)[0]? = some a' := by
    rw [Array.getElem?_push, if_neg (by simp; omega)]
    exact Array.getElem?_setIfInBounds_self_of_lt hlt0
  have gnew : ((gs.setIfInBounds 0 a').push child)[x.c + j]? = some child := by
    rw [Array.getElem?_push, if_pos (by simp [hsz])]
  have hEarly : Early j D := by
    cases hmode with
    | sp h1 => exact h1
    | reg h0 => exact h0.elim
    | last L h0 => exact h0.elim
  have hsent : (MT.sp r 0 m).sent x.N = 0 := rfl
  have h3 : j + 1 = 3 - r := by omega
  have hcom : x.Com P AnchS (j + 1) ((gs.setIfInBounds 0 a').push child) w (t ++ u) (upd D j (.sel mc)) tag' q ob oj := by
    refine ⟨by simp [hsz]; omega, fun k gk hk hkc hgk => ?_, fun k hk => by rw [hdf]; exact h.above k (by omega), fun k hk => ?_, fun k hk => ?_, by rw [hdf, td]; exact h.d0, h.wi, h.jch, by rw [tc]; exact h.ech, fun k b hk hb => ?_, fun k n hk hb => ?_, fun k hk => ?_, fun b k hb => ?_, fun k n hk => ?_, ?_, ?_, fun k hk hst => ?_, fun hcl => (by rw [tc] at hcl; cases hcl), by rw [tb, h3]⟩
    · rw [gold k hk (by omega)] at hgk
      rw [hdf]
      exact h.old k gk hk hkc hgk
    · by_cases hkj : k = j
      · subst hkj
        exact ⟨child, gnew, by rw [upd_same]; exact hc⟩
      · obtain ⟨gk, h1, h2⟩ := h.wk k (by omega)
        exact ⟨gk, by rw [gold _ (by omega) (by omega)]; exact h1, by rw [upd_ne _ _ hkj]; exact h2⟩
    · rw [hdf]
      by_cases hkj : k = j
      · subst hkj
        rw [upd_same, h.above _ (Nat.le_refl _)]; rfl
      · rw [upd_ne _ _ hkj]; exact h.wdeaf k (by omega)
    · by_cases hkj : k = j
      · subst hkj; rw [upd_same] at hb; cases hb
      · rw [upd_ne _ _ hkj] at hb; exact h.blkb k b (by omega) hb
    · by_cases hkj : k = j
      · subst hkj; rw [upd_same] at hb; cases hb
      · rw [upd_ne _ _ hkj] at hb
        have := (h.hasb k n (by omega) hb).1
        rw [hsent] at this
        omega
    · rw [ts] at hk; omega
    · obtain ⟨h1, h2⟩ := h.obs b k hb
      exact ⟨h1, by omega⟩
    · have := (h.ojs k n hk).1
      rw [hsent] at this
      omega
    · rw [← hu]
      exact h.ti.fork G ⟨rfl, rfl⟩ ⟨rfl, rfl⟩ h.d0 (h.above _ (Nat.le_refl _)) fun n => ⟨fun e => by have := (h.obs n j e).2; omega, fun e => by have := (h.ojs n j e).2; omega⟩
    · exact seen_app h.seen fun op ho => (hun op ho).2.2.2
    · by_cases hkj : k = j
      · subst hkj; rw [upd_same] at hst; simp [WT.stage] at hst
      · rw [upd_ne _ _ hkj] at hst
        have := hEarly k (by omega)
        omega
  have hE' : Early (j + 1) (upd D j (.sel mc)) := fun k hk => by
    by_cases hkj : k = j
    · subst hkj; rw [upd_same]; simp [WT.stage]
    · rw [upd_ne _ _ hkj]; exact hEarly k (by omega)
  refine ⟨_, _, hrun, .inr ⟨meas x.N x.c (j + 1) (upd D j (.sel mc)) tag' q, ?_, _, w, sl, j + 1, _, tag', q, ob, oj, a', rfl, g0, hm', hcom, ?_, rfl⟩⟩
  · refine Prod.Lex.left _ _ ?_
    have e1 := sumTo_upd_out D (.sel mc) WT.stage (Nat.le_refl j)
    simp only [meas, sumTo, upd_same] at e1 ⊢
    have e2 : (WT.sel mc).stage = 6 := rfl
    omega
  · rcases tk with ⟨r', d, m', rfl⟩ | ⟨r', m', rfl, rfl⟩
    · exact .sp hE'
    · exact .snd hE' hwg
/-- The CompareAndSwap. -/
theorem casStep {V d m vs : Nat} (htag : tag = .anch V d m) (hV3 : V ≤ 3) (hvs : vs < V) (hstop : x.AtCas P Anch (vs + 1) (x.AtW P Anch vs) d a w) : x.Nxt P AnchS Anch (meas x.N x.c j D tag q) t (runT P (crowd gs w sl) 0) := by
  subst htag
  obtain ⟨hrn, ⟨v, hv, hwv⟩, hhit, hmiss⟩ := hstop
  cases hmode with
  | reg h0 => exact h0.elim
  | last L h0 => exact h0.elim
  | anch hNL hle hwg =>
  have ev : v = cnts j D := by
    have := (wg_unique hwv hwg).1
    have e := kk_inj (v := v) (v' := cnts j D) (s := 0) (s' := 0) (by omega) (by omega) (by simpa using this)
    exact e.1
  subst ev
  by_cases he : cnts j D = vs + 1
  · rw [he] at hwg
    obtain ⟨a', hgo, m', hs'⟩ := hhit hwg
    have hwg' := hwg.setSt (((vs + 1 : Nat) : Int) * KK + 1)
    exact step0 G K ha h (.anch hNL hle (by rw [he]; exact hwg)) (tag' := .w3 d m') hgo (upd_setCell w (stA x.Wg) _) (by simp) ⟨_, _, hwg'⟩ (.inr hNL) hs' (fun e he => rdwr_evM he) (deafBehind_plain fun e he => by
      simp only [List.mem_toArray, List.mem_cons, List.not_mem_nil, or_false] at he
      rcases he with rfl | rfl
      · exact ⟨_, _, _, rfl⟩
      · exact ⟨_, _, _, rfl⟩) rfl rfl h.beg (.inl (by simp [rank, MT.phi])) (.reg trivial hNL (by omega) (by rw [he]; exact hwg'))
  · obtain ⟨a', hgo, m', hs'⟩ := hmiss (cnts j D) (by omega) hwg
    exact step0 G K ha h (.anch hNL hle hwg) (tag' := .anch vs d m') hgo (Upd.refl w) rfl h.wi.live (.inl rfl) ⟨by omega, hs'⟩ (fun e he => by
      rw [Array.mem_singleton] at he
      subst he
      exact rdwr_evM (by simp)) (deafBehind_plain fun e he => by
      rw [Array.mem_singleton] at he
      subst he
      exact ⟨_, _, _, rfl⟩) rfl rfl h.beg (.inl (by simp [rank, MT.phi]; omega)) (.anch hNL (by omega) hwg)
/-- At the semaphore. -/
theorem semStep {d m : Nat} (htag : tag = .w3 d m) (hstop : ∀ w₁, x.RM0 w w₁ → x.AtW3 P Anch d a w₁) : x.Nxt P AnchS Anch (meas x.N x.c j D tag q) t (runT P (crowd gs w sl) 0) := by
  subst htag
  have hc1 := G.c1
  have hlt0 : 0 < gs.size := by rw [h.size]; omega
  obtain ⟨hrn, hoff, hblk, hsem⟩ := hstop w (RM0.refl w)
  have block : (∃ st, WgAt x.ty x.Wg w st 0) → x.Mode j D w (.blk d) → x.Nxt P AnchS Anch (meas x.N x.c j D (.w3 d m) q) t (runT P (crowd gs w sl) 0) := by
    rintro ⟨st, hst⟩ hmd
    exact step0 G K ha h hmode (tag' := .blk d) (hblk st hst) (Upd.refl w) rfl h.wi.live (.inl rfl) ⟨a, rfl, hstop⟩ (fun e he => by simp at he) rfl rfl rfl h.beg (.inr ⟨rfl, Nat.succ_pos _⟩) hmd
  cases hmode with
  | reg h0 h1 h2 h3 => exact block ⟨_, h3⟩ (.reg trivial h1 h2 h3)
  | last L h0 h1 h2 h3 h4 => exact block h4 (.last L trivial h1 h2 h3 h4)
  | sema h1 h2 =>
    obtain ⟨a', hgo, m', hs'⟩ := hsem h2
    have hwg' := h2.setSm 0
    exact step0 G K ha h (.sema h1 h2) (tag' := .fin d m') hgo (upd_setCell w (smA x.Wg) _) (by simp) ⟨_, _, hwg'⟩ (.inr fun k hk => by rw [h1 k hk]; omega) hs' (fun e he => sem_evM he) (by
      show deafBehind d (semEvents (smA x.Wg)) = d
      simp [semEvents, deafBehind]) rfl rfl h.beg (.inl (by simp [rank, MT.phi])) (.fin h1 hwg')
/-- IT ACQUIRES: the phase is over. -/
theorem acqStep {d : Nat} (htd : tag.deaf = d) (hcl : tag.closed = true) (hsent : tag.sent x.N = x.N) (hj : j = 3) (hq : AllQuit j D) (hstop : x.AtAcq P Anch d a w) : x.Nxt P AnchS Anch (meas x.N x.c j D tag q) t (runT P (crowd gs w sl) 0) := by
  subst hj
  have hc1 := G.c1
  have hlt0 : 0 < gs.size := by rw [h.size]; omega
  obtain ⟨rfl, hrn, hwg, a', hgo, hA⟩ := hstop
  have hrun := runT_crowd_go (sl := sl) ha (show stepG P (0 == 0) a w = _ from hgo)
  have hops : ∀ op ∈ MemOp.ofEvents 0 a.frame.fn a.frame.place #[Go.ConcR.mk (.acquire (stA x.Wg))], op.g = 0 ∧ op.act = .mark (.acquire (stA x.Wg)) := fun op ho => by
    obtain ⟨e, he, rfl⟩ := Go.Conc.mem_ofEvents ho
    rw [Array.mem_singleton] at he
    subst he
    exact ⟨rfl, rfl⟩
  have hel : (t ++ MemOp.ofEvents 0 a.frame.fn a.frame.place #[Go.ConcR.mk (.acquire (stA x.Wg))])[t.size]? = some { g := 0, fn := a.frame.fn, pos := a.frame.place, act := .mark (.acquire (stA x.Wg)) } := by
    rw [ofEvents_eq]
    simp [Go.ConcR.mk, MemAct.ofEvent]
  generalize hu : MemOp.ofEvents 0 a.frame.fn a.frame.place #[Go.ConcR.mk (.acquire (stA x.Wg))] = u at *
  have hdf : ∀ k, Deaf (t ++ u) k = Deaf t k := fun k => deaf_quiet t k u fun op ho => by rw [(hops op ho).2]; simp
  have hti : x.TI ob oj 3 (t ++ u) := h.ti.app0 G fun op ho => ⟨(hops op ho).1, by rw [(hops op ho).2]; simp, fun b hb => by rw [(hops op ho).2] at hb; cases hb⟩
  have hd0 : Deaf t 0 = 0 := by rw [h.d0, htd]
  refine ⟨_, _, hrun, .inl ⟨_, w, sl, fun i => if i < x.c then q i else (D (i - x.c)).fuel, a', rfl, by simp [h.size], get_ms_same _ _ hlt0, hA, ⟨fun i g hi hg => ?_, fun k hk => ?_⟩, ?_, h.wi, fun k hk => ?_⟩⟩
  · rw [get_ms _ _ (by omega)] at hg
    obtain ⟨y, hy, rfl⟩ := Option.map_eq_some_iff.1 hg
    rw [hdf]
    by_cases hic : i < x.c
    · have hqi := h.old i y hi hic hy
      rw [woken_quitsD hqi]
      simp only [hic, if_true]
      exact hqi
    · have hkj : i - x.c < 3 := by have := lt_size_of_get hy; rw [h.size] at this; omega
      obtain ⟨gk, h1, h2⟩ := h.wk (i - x.c) hkj
      rw [show x.c + (i - x.c) = i by omega, hy] at h1
      obtain rfl := Option.some.inj h1
      have hst := hq (i - x.c) hkj
      have hwd := h.wdeaf (i - x.c) hkj
      rw [show x.c + (i - x.c) = i by omega] at hwd
      simp only [hic, if_false]
      cases hDk : D (i - x.c) with
      | quit d' m' =>
        rw [hDk] at h2 hwd
        rw [woken_quitsD h2, hwd]
        exact h2
      | _ => rw [hDk] at hst; simp [WT.stage] at hst
  · rw [hdf]
    exact h.above k (by simpa [h.size] using hk)
  · refine hti.past (p := t.size) (by rw [act?_of hel]) (by simp [Trace.g?, hel]) ⟨0, by simp [Trace.g?, hel], by rw [deaf_old (Nat.le_refl _)]; exact hd0⟩ (fun i hi => ?_) ((hdf 0).trans hd0) (seen_app h.seen fun op ho => ?_)
    · obtain ⟨r, hr⟩ := h.rel i hi (by rw [hq i hi]; omega)
      exact ⟨r, hr.appOther (fun op ho => (hops op ho).1) (by omega), lt_of_act? hr.act⟩
    · rw [(hops op ho).2]
      show x.Wg < _
      have := G.wg; have := h.wi.size; omega
  · rcases h.done k (by rw [hsent]; exact hk) with ⟨i, hi, hh⟩ | h1
    · have := hq i hi
      cases hDi : D i <;> rw [hDi] at this hh <;> simp [WT.stage] at this <;> cases hh
    · exact h1
end
theorem atW_out {V d : Nat} (h : x.AtW P Anch V d a w) : x.AtAcq P Anch d a w ∨ ∃ vs, vs < V ∧ x.AtCas P Anch (vs + 1) (x.AtW P Anch vs) d a w := by
  induction V with
  | zero => exact .inl h
  | succ V ih =>
    rcases h with h | h
    · exact (ih h).imp id fun ⟨vs, h1, h2⟩ => ⟨vs, by omega, h2⟩
    · exact .inr ⟨V, by omega, h⟩
/-- ████ WHATEVER STEP OF GOROUTINE 0's. ████ -/
theorem stepMain (G : x.Geo) (K : x.WkS P AnchS) (ha : gs[0]? = some a) (hm : x.MSit P AnchS Anch tag a w) (h : x.Com P AnchS j gs w t D tag q ob oj) (hmode : x.Mode j D w tag) (hrun : a.status = .running) :
    x.Nxt P AnchS Anch (meas x.N x.c j D tag q) t (runT P (crowd gs w sl) 0) := by
  cases htag : tag with
  | sp r d m =>
    subst htag
    rcases GD.out atRel_refl hm.2 with hS | ⟨n', hn, a', w', es, hgo, hd, hs'⟩
    · cases r with
      | zero =>
        obtain rfl : d = 0 := hS.1
        refine spawnStep G K ha h hmode rfl hm.1 hS fun a' hnx => ?_
        have hwg : WgAt x.ty x.Wg w (((3 : Nat) : Int) * KK) 0 := hS.2.2.1
        obtain ⟨m', hM⟩ := hnx w h.wi ⟨3, Nat.le_refl _, hwg⟩
        exact ⟨.snd x.N 0 m', ⟨Nat.le_refl _, hM⟩, rfl, by simp [MT.sent], rfl, rfl, by simp [rank, MT.phi], .inr ⟨_, _, rfl, rfl⟩⟩
      | succ k =>
        obtain rfl : d = 0 := hS.1
        refine spawnStep G K ha h hmode rfl hm.1 hS fun a' hnx => ?_
        obtain ⟨m', hM⟩ := hnx
        have := hm.1
        exact ⟨.sp k 0 m', ⟨by omega, hM⟩, rfl, rfl, rfl, by simp [MT.begun], by simp [rank]; omega, .inl ⟨_, _, _, rfl⟩⟩
    · have hEarly : Early j D := by
        cases hmode with
        | sp h1 => exact h1
        | reg h0 => exact h0.elim
        | last L h0 => exact h0.elim
      exact step0 G K ha h hmode (tag' := .sp r (deafBehind d es) n') hgo hd.upd hd.size (hd.wg h.wi.live) (.inr fun k hk => by have := hEarly k hk; omega) ⟨hm.1, hs'⟩ hd.evs rfl rfl rfl h.beg (.inr ⟨rfl, by rw [hn]; exact Nat.lt_succ_self _⟩) (.sp hEarly)
  | snd r d m =>
    subst htag
    rcases GD.out RM.refl hm.2 with hS | ⟨n', hn, a', w', es, hgo, hd, hs'⟩
    · cases r with
      | zero =>
        obtain rfl : d = 0 := hS.1
        exact closeStep G K ha h hmode rfl hS
      | succ r' =>
        obtain rfl : d = 0 := hS.1
        exact sendStep G K ha h hmode rfl hm.1 hS
    · refine idleM G K ha h hmode (tag' := .snd r (deafBehind d es) n') hgo hd ⟨hm.1, ?_⟩ rfl rfl rfl h.beg ⟨rfl, by rw [hn]; exact Nat.lt_succ_self _⟩ ?_
      · obtain ⟨rfl, _⟩ := hd; exact hs'
      · cases hmode with
        | reg h0 => exact h0.elim
        | last L h0 => exact h0.elim
        | snd h1 h2 => exact .snd h1 h2
  | prk r =>
    subst htag
    obtain ⟨r', _, _, g₂, rfl, _⟩ := hm
    cases hrun
  | anch V d m =>
    subst htag
    rcases GD.out RM.refl hm.2 with hS | ⟨n', hn, a', w', es, hgo, hd, hs'⟩
    · rcases atW_out hS with hA | ⟨vs, hvs, hC⟩
      · refine acqStep G K ha h hmode rfl rfl rfl h.beg ?_ hA
        cases hmode with
        | reg h0 => exact h0.elim
        | last L h0 => exact h0.elim
        | anch hNL hle hwg =>
          have hz : cnts j D = 0 := by
            have := (wg_unique hA.2.2.1 hwg).1
            have e := kk_inj (v := 0) (v' := cnts j D) (s := 0) (s' := 0) (by omega) (by omega) (by simpa using this)
            exact e.1.symm
          intro i hi
          have h4 := cnts_zero hz i hi
          have := hNL i hi
          rcases stage_vals (D i) with e | e | e <;> omega
      · exact casStep G K ha h hmode rfl hm.1 hvs hC
    · refine idleM G K ha h hmode (tag' := .anch V (deafBehind d es) n') hgo hd ⟨hm.1, ?_⟩ rfl rfl rfl h.beg ⟨rfl, by rw [hn]; exact Nat.lt_succ_self _⟩ ?_
      · obtain ⟨rfl, _⟩ := hd; exact hs'
      · cases hmode with
        | reg h0 => exact h0.elim
        | last L h0 => exact h0.elim
        | anch hNL hle hwg => exact .anch hNL hle hwg
  | w3 d m =>
    subst htag
    rcases GD.out' RM0.refl hm with hS | ⟨n', hn, a', w', es, hgo, hd, hs'⟩
    · exact semStep G K ha h hmode rfl hS
    · refine idleM G K ha h hmode (tag' := .w3 (deafBehind d es) n') hgo hd ?_ rfl rfl rfl h.beg ⟨rfl, by rw [hn]; exact Nat.lt_succ_self _⟩ ?_
      · obtain ⟨rfl, _⟩ := hd; exact hs'
      · cases hmode with
        | reg h0 h1 h2 h3 => exact .reg trivial h1 h2 h3
        | last L h0 h1 h2 h3 h4 => exact .last L trivial h1 h2 h3 h4
        | sema h1 h2 => exact .sema h1 h2
  | blk d =>
    subst htag
    obtain ⟨g₀, rfl, _⟩ := hm
    cases hrun
  | fin d m =>
    subst htag
    have hq : AllQuit j D ∧ WgAt x.ty x.Wg w 0 0 := by
      cases hmode with
      | reg h0 => exact h0.elim
      | last L h0 => exact h0.elim
      | fin h1 h2 => exact ⟨h1, h2⟩
    rcases GD.out RM.refl hm with hS | ⟨n', hn, a', w', es, hgo, hd, hs'⟩
    · exact acqStep G K ha h hmode rfl rfl rfl h.beg hq.1 hS
    · refine idleM G K ha h hmode (tag' := .fin (deafBehind d es) n') hgo hd ?_ rfl rfl rfl h.beg ⟨rfl, by rw [hn]; exact Nat.lt_succ_self _⟩ (.fin hq.1 hq.2)
      obtain ⟨rfl, _⟩ := hd; exact hs'
end
end Ph
end Go.Proofs.YtacimedkchjfnaaGreat
end

section
/-! THE PHASE: on whatever tape goroutine 0 comes to its acquire; all jobs are done; the workers only leave. -/
namespace Go.Proofs.YtacimedkchjfnaaGreat
set_option linter.unusedSimpArgs false
set_option linter.unusedVariables false
set_option linter.unusedSectionVars false
open Go.Conc
open Go.ConcR (KK wgBlock WgAt stA smA rd wr deafBehind_cons deafBehind_one)
open Go.ConcN (WgLive PermW fork_knows RelBy upd upd_same upd_ne sumTo sumTo_upd sumTo_upd_out sumTo_congr le_sumTo)
theorem pos_of_sum {f : Nat → Nat} : ∀ {j : Nat}, 1 ≤ sumTo j f → ∃ i, i < j ∧ 1 ≤ f i
  | 0, h => by simp [sumTo] at h
  | j + 1, h => by
    simp only [sumTo] at h
    by_cases hj : 1 ≤ f j
    · exact ⟨j, Nat.lt_succ_self j, hj⟩
    · obtain ⟨i, h1, h2⟩ := pos_of_sum (j := j) (f := f) (by omega)
      exact ⟨i, by omega, h2⟩
namespace Ph
section
variable {x : Ph} {P : Program} {AnchS Anch : Goroutine → Prop} {j : Nat} {gs gs' : Array Goroutine} {w w' : World} {t ops u : Trace} {D D' : Nat → WT} {tag tag' : MT} {q : Nat → Nat} {ob oj ob' : Nat → Option Nat} {a a' g g' : Goroutine} {es : Array Event} {sl : Option (Nat × Nat)}
theorem someone (G : x.Geo) (K : x.WkS P AnchS) (ha : gs[0]? = some a) (hm : x.MSit P AnchS Anch tag a w) (h : x.Com P AnchS j gs w t D tag q ob oj) (hmode : x.Mode j D w tag) : ∃ (i : Nat) (g : Goroutine), gs[i]? = some g ∧ g.status = .running := by
  have wr : ∀ i, i < j → D i ≠ .wait → (D i).stage ≠ 1 → ∃ (i : Nat) (g : Goroutine), gs[i]? = some g ∧ g.status = .running := by
    intro i hi hw hs
    obtain ⟨gk, h1, h2⟩ := h.wk i hi
    refine ⟨_, gk, h1, ?_⟩
    rcases h2.status K with ⟨e, _⟩ | ⟨_, e | ⟨_, d, m, e⟩⟩
    · exact absurd e hw
    · exact e
    · rw [e] at hs; exact absurd rfl hs
  rcases hm.status with ⟨⟨r, rfl⟩ | ⟨d, rfl⟩, _⟩ | ⟨_, _, hs⟩
  · have hj : j = 3 := h.beg
    cases hmode with
    | reg h0 => exact h0.elim
    | last L h0 => exact h0.elim
    | prk h1 h2 h3 =>
      exact wr 0 (by omega) (h2 0 (by omega)) (by have := h1 0 (by omega); omega)
  · have hnw := h.nw rfl
    cases hmode with
    | reg h0 h1 h2 h3 =>
      obtain ⟨i, hi, hc⟩ := pos_of_sum h2
      refine wr i hi (hnw i hi) fun e => ?_
      simp [WT.cnt, e] at hc
    | last L h0 h1 h2 h3 h4 => exact wr L h1 (hnw L h1) (by omega)
  · exact ⟨0, a, ha, hs⟩
theorem slipStep (G : x.Geo) (K : x.WkS P AnchS) (ha : gs[0]? = some a) (hm : x.MSit P AnchS Anch tag a w) (h : x.Com P AnchS j gs w t D tag q ob oj) (hmode : x.Mode j D w tag) {i : Nat} (h0 : 0 < i) (hi : i < x.c) (hg : gs[i]? = some g) (hrun : g.status = .running) :
    x.Nxt P AnchS Anch (meas x.N x.c j D tag q) t (runT P (crowd gs w sl) i) := by
  have hq := h.old i g h0 hi hg
  have hi0 : (i == 0) = false := by simp; omega
  cases hqi : q i with
  | zero => rw [hqi] at hq; rw [hq.1] at hrun; cases hrun
  | succ k =>
    rw [hqi] at hq
    rcases hq with ⟨hf, _⟩ | ⟨_, g', es, hmu, hst, hq'⟩
    · rw [hf] at hrun; cases hrun
    obtain ⟨tag', a', h0', hm', htag, hcom⟩ := h.slip G K ha hm h0 hi hg hmu hq'
    have hrunT := runT_crowd_go (sl := sl) hg (show stepG P (i == 0) g w = _ by rw [hi0]; exact hst w)
    refine ⟨_, _, hrunT, .inr ⟨meas x.N x.c j D tag' (upd q i k), ?_, _, w, sl, j, D, tag', upd q i k, ob, oj, a', rfl, h0', hm', hcom, hmode.keep htag (fun _ _ => rfl) (fun _ _ e => e) rfl, rfl⟩⟩
    obtain ⟨r1, r2⟩ := rank_tag htag x.N
    have e : sumTo x.c (upd q i k) + q i = sumTo x.c q + k := sumTo_upd q k id hi
    unfold meas
    rw [r1]
    refine Prod.Lex.right _ ?_
    omega
theorem inv_step (G : x.Geo) (K : x.WkS P AnchS) {μ : Nat × Nat} {m : Machine} (hI : x.Inv P AnchS Anch μ m t) : x.Nxt P AnchS Anch μ t (stepT P m) := by
  obtain ⟨gs, w, sl, j, D, tag, q, ob, oj, a, rfl, ha, hm, hcom, hmode, rfl⟩ := hI
  obtain ⟨i, g, d, sl', hi, hg, hst⟩ := crowd_pick (P := P) (w := w) (sl := sl) (hcom.awake K ha hm) (someone G K ha hm hcom hmode)
  rw [hst]
  have hm' := hm.rely (MRel.at w d)
  have hcom' := hcom.at d
  have hmode' : x.Mode j D (w.at d) tag := hmode.keep (.inl rfl) (fun _ _ => rfl) (fun _ _ e => e) rfl
  rcases Nat.eq_zero_or_pos i with rfl | hpos
  · rw [ha] at hi
    obtain rfl := Option.some.inj hi
    exact stepMain G K ha hm' hcom' hmode' hg
  · rcases Nat.lt_or_ge i x.c with hlt | hge
    · exact slipStep G K ha hm' hcom' hmode' hpos hlt hi hg
    · have hij : i - x.c < j := by have := lt_size_of_get hi; rw [hcom.size] at this; omega
      have e : x.c + (i - x.c) = i := by omega
      rw [← e] at hi ⊢
      exact stepWorker G K ha hm' hcom' hmode' hij hi hg
/-- ████ THE PHASE ENDS, ON WHATEVER TAPE. ████ -/
theorem phase_runs (G : x.Geo) (K : x.WkS P AnchS) : ∀ (μ : Nat × Nat) (m : Machine) (t : Trace), x.Inv P AnchS Anch μ m t → ∃ N m' t', runNT P N m t = (.next m', t') ∧ x.Done P Anch m' t' := by
  intro μ
  induction μ using (Prod.lex Nat.lt_wfRel Nat.lt_wfRel).wf.induction with
  | _ μ ih =>
    intro m t hI
    obtain ⟨m', ops, hs, hd | ⟨μ', hlt, hI'⟩⟩ := inv_step G K hI
    · exact ⟨1, m', t ++ ops, by simp [runNT, hs], hd⟩
    · obtain ⟨N, m'', t'', hr, hd⟩ := ih μ' hlt m' (t ++ ops) hI'
      exact ⟨N + 1, m'', t'', by simp only [runNT, hs]; exact hr, hd⟩
/-- ████ FROM THE FIRST OF THE LOOP THAT STARTS THE WORKERS TO THE ACQUIRE. ████ -/
theorem phase (G : x.Geo) (K : x.WkS P AnchS) {gs : Array Goroutine} {w : World} {sl : Option (Nat × Nat)} {t : Trace} {q : Nat → Nat} {a : Goroutine} {m : Nat} (hgs : gs.size = x.c) (ha : gs[0]? = some a) (hL : Leavers P t gs q) (hP : Past x.Shun x.L0 t)
    (hT : x.T0 = t.size) (hun : ∀ k b ad, touchAt t k = some b → b.loc = .cell ad → ad.block ≠ x.C ∧ ad.block ≠ x.Wg) (hnr : NoRelease (stA x.Wg) t) (hwi : x.WI w) (hsz : w.heap.size = x.L0)
    (hJ : ∃ s r, w.heap[x.J]? = some (.chan 0 #[] false s r false)) (hE : ∃ s r, w.heap[x.E]? = some (.chan 0 #[] false s r false))
    (hG : GD P true AtRel x.DS (x.MSp P Anch AnchS 2) m 0 a w) :
    ∃ N m' t', runNT P N (crowd gs w sl) t = (.next m', t') ∧ x.Done P Anch m' t' := by
  have hc1 := G.c1
  refine phase_runs G K _ _ _ ⟨gs, w, sl, 0, fun _ => .wait, .sp 2 0 m, q, fun _ => none, fun _ => none, a, rfl, ha, ⟨Nat.le_refl _, hG⟩, ?_, .sp fun i hi => by omega, rfl⟩
  exact ⟨by omega, fun i g h0 hi hg => hL.old i g h0 hg, fun k hk => hL.above k (by omega), fun i hi => by omega, fun i hi => by omega, hP.hears, hwi, hJ, hE, fun i b hi => by omega, fun i k hi => by omega, fun k hk => (by simp [MT.sent] at hk), fun b i e => (by cases e), fun k i e => (by cases e),
    TI.init hT G hP hun hnr, fun op ho => by rw [hsz]; exact hP.seen op ho, fun i hi => by omega, fun e => (by cases e), rfl⟩
end
end Ph
end Go.Proofs.YtacimedkchjfnaaGreat
end

section
/-! This program's sync.WaitGroup. -/
namespace Go.Proofs.YtacimedkchjfnaaGreat
set_option linter.unusedSimpArgs false
set_option linter.unusedVariables false
abbrev Tryz.link : Go.Conc.Lib.WgLink := { add := 23, done := 25, wait := 26, relMerge := 31, disable := 32, enable := 33, inBubble := 34, associate := 35, fatal := 36, uOr := 37, uAdd := 38, raceRead := 39, uLoad := 40, uStore := 41, disassociate := 42, semrelease := 43, acquire := 44, isAssociated := 45, uCas := 46, raceWrite := 47, semacquire := 48, orU64 := 53, addU64 := 54, loadU64 := 55, storeU64 := 56, casU64 := 57, tWgP := 79, tUP := 81, tAssoc := 82, tWg := 61, tAU := 58, tU64 := 33, tUint := 86, tU32 := 59, tPU32 := 87, tPAU := 98, tPU64 := 100, tNoCopy := 54, tANoCopy := 55, tAlign64 := 56 }
theorem Tryz.wgLib : Go.Conc.Lib.WgLib Tryz.prog Tryz.link :=
  ⟨Tryz.func23, Tryz.func25, Tryz.func26, Tryz.func31, Tryz.func32, Tryz.func33, Tryz.func34, Tryz.func35, Tryz.func36, Tryz.func37, Tryz.func38, Tryz.func39, Tryz.func40, Tryz.func41, Tryz.func42, Tryz.func43, Tryz.func44, Tryz.func45, Tryz.func46, Tryz.func47, Tryz.func48, Tryz.func53, Tryz.func54, Tryz.func55, Tryz.func56, Tryz.func57, Tryz.underlying79, Tryz.runUnderlying79, Tryz.sizeOf79, Tryz.isAgg79, Tryz.zeroValue79, Tryz.underlying81, Tryz.runUnderlying81, Tryz.sizeOf81, Tryz.isAgg81, Tryz.zeroValue81, Tryz.underlying82, Tryz.runUnderlying82, Tryz.sizeOf82, Tryz.isAgg82, Tryz.zeroValue82, Tryz.underlying61, Tryz.runUnderlying61, Tryz.sizeOf61, Tryz.isAgg61, Tryz.zeroValue61, Tryz.underlying58, Tryz.runUnderlying58, Tryz.sizeOf58, Tryz.isAgg58, Tryz.zeroValue58, Tryz.underlying33, Tryz.runUnderlying33, Tryz.sizeOf33, Tryz.isAgg33, Tryz.zeroValue33, Tryz.underlying86, Tryz.runUnderlying86, Tryz.sizeOf86, Tryz.isAgg86, Tryz.zeroValue86, Tryz.underlying59, Tryz.runUnderlying59, Tryz.sizeOf59, Tryz.isAgg59, Tryz.zeroValue59, Tryz.underlying87, Tryz.runUnderlying87, Tryz.sizeOf87, Tryz.isAgg87, Tryz.zeroValue87, Tryz.underlying98, Tryz.runUnderlying98, Tryz.sizeOf98, Tryz.isAgg98, Tryz.zeroValue98, Tryz.underlying100, Tryz.runUnderlying100, Tryz.sizeOf100, Tryz.isAgg100, Tryz.zeroValue100, Tryz.underlying0, Tryz.runUnderlying0, Tryz.sizeOf0, Tryz.isAgg0, Tryz.zeroValue0, Tryz.underlying3, Tryz.runUnderlying3, Tryz.sizeOf3, Tryz.isAgg3, Tryz.zeroValue3, Tryz.underlying4, Tryz.runUnderlying4, Tryz.sizeOf4, Tryz.isAgg4, Tryz.zeroValue4, Tryz.underlying9, Tryz.runUnderlying9, Tryz.sizeOf9, Tryz.isAgg9, Tryz.zeroValue9, Tryz.underlying20, Tryz.runUnderlying20, Tryz.sizeOf20, Tryz.isAgg20, Tryz.zeroValue20, Tryz.underlying21, Tryz.runUnderlying21, Tryz.sizeOf21, Tryz.isAgg21, Tryz.zeroValue21, (by kernel_rfl), (by kernel_rfl)⟩
end Go.Proofs.YtacimedkchjfnaaGreat
end

section
/-! The words of a walk in company, the goroutine's deafness counted. -/
namespace Go.Proofs.YtacimedkchjfnaaGreat
set_option linter.unusedSimpArgs false
set_option linter.unusedVariables false
open Go.Conc
theorem G_running (fr : Frame) (cs : List Frame) : (G fr cs).status = .running := rfl
structure GT (R : World → World → Prop) (D : Nat → World → World → Array Event → Prop) : Prop where
  tr : ∀ a b c, R a b → R b c → R a c
  idle : ∀ d w, D d w w #[]
section
variable {P : Program} {main : Bool} {R : World → World → Prop} {D : Nat → World → World → Array Event → Prop} {Stop : Nat → Goroutine → World → Prop} {n d : Nat} {w : World} {b : Frame} {a : Act} {k : List Item} {cs : List Frame} {ops : Array Oper} {i : Nat} {rest : List Nat} {o : Oper}
theorem gd_c (T : GT R D) {g g' : Goroutine} (hs : g.status = .running) (h : ∀ w, stepG P main g w = .go g' w #[]) (hq : GD P main R D Stop n d g' w) : GD P main R D Stop (n + 1) d g w :=
  .step hs fun w₁ h₁ => by rw [h]; exact ⟨T.idle d w₁, hq.rely T.tr h₁⟩
theorem gd_val (T : GT R D) {v : Value} (ho : ops[i]? = some o) (hw : Region.wanted o (yielded ops a.tmps) = true) (hk : b.kind ≠ .early)
    (hr : ∀ w, ∀ K : Result Next → Prop, K (.ok (.value v) w) → K ((execOp a.eval o).run P w)) (he : ∀ w, (execOp a.eval o).events P w #[] = #[])
    (hq : GD P main R D Stop n d (G (b.at (a.put o.dst v) (.inRegion ops rest :: k)) cs) w) : GD P main R D Stop (n + 1) d (G (b.at a (.inRegion ops (i :: rest) :: k)) cs) w :=
  gd_c T rfl (fun w => by rw [stepG_value ho hw hk (hr w (· = .ok (.value v) w) rfl)]; unfold listed; rw [he w, seen_none]) hq
theorem gd_call (T : GT R D) {f : FuncId} {fn : Func} {c : Code} {args : Array Operand} {ats : Array TypeId}
    (ho : ops[i]? = some o) (hw : Region.wanted o (yielded ops a.tmps) = true) (hk : b.kind ≠ .early) (hop : o.op = .call { callee := .value (.func f), args, argTypes := ats })
    (hf : P.funcs[f]? = some fn) (hname : (fn.name == "runtime.NumGoroutine") = false) (hb : fn.body = some c)
    (hq : GD P main R D Stop n d (G ((base f).at { tmps := args.map a.eval ++ Array.replicate (fn.ntmps - (args.map a.eval).size) undef, defers := [] } [.code c]) (b.at a (.inRegion ops (i :: rest) :: k) :: cs)) w) :
    GD P main R D Stop (n + 1) d (G (b.at a (.inRegion ops (i :: rest) :: k)) cs) w :=
  .step rfl fun w₁ h₁ => goes_call ho hw hk hop hf hname hb ⟨T.idle d w₁, hq.rely T.tr h₁⟩
section
variable {fn : Func} {todo : List Item} {b₀ : Frame} {a₀ : Act}
theorem gd_leave0 (T : GT R D) (hn : b.kind = .normal) (hd : a.defers = []) (hf : P.funcs[b.fn]? = some fn) (hr : fn.results = #[])
    (hq : GD P main R D Stop n d (G (b₀.at (a₀.put ((ops[i]?).bind (·.dst)) (.tuple #[])) (.inRegion ops rest :: k)) cs) w) :
    GD P main R D Stop (n + 1) d (G { b.at a todo with mode := .returning } (b₀.at a₀ (.inRegion ops (i :: rest) :: k) :: cs)) w :=
  .step rfl fun w₁ h₁ => goes_leave0 hn hd hf hr ⟨T.idle d w₁, hq.rely T.tr h₁⟩
theorem gd_leave1 (T : GT R D) {t : Tmp} (hn : b.kind = .normal) (hd : a.defers = []) (hf : P.funcs[b.fn]? = some fn) (hr : fn.results = #[.tmp t])
    (hq : GD P main R D Stop n d (G (b₀.at (a₀.put ((ops[i]?).bind (·.dst)) (a.tmps.getD t undef)) (.inRegion ops rest :: k)) cs) w) :
    GD P main R D Stop (n + 1) d (G { b.at a todo with mode := .returning } (b₀.at a₀ (.inRegion ops (i :: rest) :: k) :: cs)) w :=
  .step rfl fun w₁ h₁ => goes_leave1 hn hd hf hr ⟨T.idle d w₁, hq.rely T.tr h₁⟩
end
/-- An operation that looks at the world, lists nothing. -/
theorem gd_val' (T : GT R D) {v : Value} (ho : ops[i]? = some o) (hw : Region.wanted o (yielded ops a.tmps) = true) (hk : b.kind ≠ .early)
    (hr : ∀ w₁, R w w₁ → ∀ K : Result Next → Prop, K (.ok (.value v) w₁) → K ((execOp a.eval o).run P w₁)) (he : ∀ w₁, R w w₁ → (execOp a.eval o).events P w₁ #[] = #[])
    (hq : GD P main R D Stop n d (G (b.at (a.put o.dst v) (.inRegion ops rest :: k)) cs) w) : GD P main R D Stop (n + 1) d (G (b.at a (.inRegion ops (i :: rest) :: k)) cs) w :=
  .step rfl fun w₁ h₁ => by
    rw [stepG_value ho hw hk (hr w₁ h₁ (· = .ok (.value v) w₁) rfl)]
    unfold listed
    rw [he w₁ h₁, seen_none]
    exact ⟨T.idle d w₁, hq.rely T.tr h₁⟩
/-- A step that says a mute word. -/
theorem gd_said (tr : ∀ a b c, R a b → R b c → R a c) {g g' : Goroutine} (e : Event) (hD : ∀ w, D d w w #[e]) (hs : g.status = .running) (h : ∀ w, stepG P main g w = .go g' w #[e]) (hq : GD P main R D Stop n (deafBehind d #[e]) g' w) : GD P main R D Stop (n + 1) d g w :=
  .step hs fun w₁ h₁ => by rw [h]; exact ⟨hD w₁, hq.rely tr h₁⟩
/-- A step that says one word; nobody's hearing turns. -/
theorem gd_ev (tr : ∀ a b c, R a b → R b c → R a c) {g g' : Goroutine} (e : Event) (hdb : deafBehind d #[e] = d) (hD : ∀ w, D d w w #[e]) (hs : g.status = .running) (h : ∀ w, stepG P main g w = .go g' w #[e]) (hq : GD P main R D Stop n d g' w) : GD P main R D Stop (n + 1) d g w :=
  .step hs fun w₁ h₁ => by rw [h]; exact ⟨hD w₁, by rw [hdb]; exact hq.rely tr h₁⟩
theorem deafBehind_disable (d : Nat) : deafBehind d #[(⟨.mark .disable, false, true⟩ : Event)] = d + 1 := rfl
theorem deafBehind_enable (d : Nat) : deafBehind d #[(⟨.mark .enable, false, true⟩ : Event)] = d - 1 := rfl
/-- An operation that looks at the world or turns it: what it lists is plain. -/
theorem gd_op (ho : ops[i]? = some o) (hw : Region.wanted o (yielded ops a.tmps) = true) (hk : b.kind ≠ .early)
    (h : ∀ w₁, R w w₁ → ∀ K : Act → World → Prop, (∀ a' w', D d w₁ w' (listed P b.fn a o w₁) → deafBehind d (listed P b.fn a o w₁) = d → GD P main R D Stop n d (G (b.at a' (.inRegion ops rest :: k)) cs) w' → K a' w') → uponK o a K ((execOp a.eval o).run P w₁)) :
    GD P main R D Stop (n + 1) d (G (b.at a (.inRegion ops (i :: rest) :: k)) cs) w :=
  .step rfl fun w₁ h₁ => goes_oper_k ho hw hk fun K hK => h w₁ h₁ K fun a' w' hd hdb hq => hK a' w' ⟨hd, by rw [hdb]; exact hq⟩
/-- A frame on its way out makes its deferred call of 'enable'. -/
theorem gd_unwind_enable (tr : ∀ a b c, R a b → R b c → R a c) {fn : Func} {todo : List Item} {ds : List Deferred} {f : FuncId} (hD : ∀ w, D (d + 1) w w #[⟨.mark .enable, false, true⟩]) (hd : a.defers = dcall f #[] :: ds)
    (hf : P.funcs[f]? = some fn) (hname : (fn.name == "runtime.NumGoroutine") = false) (hb : fn.body.isNone = true) (hn : Extern.findNext fn = none) (he : Extern.find fn = some (fun _ => do mark .enable; pure Extern.Race.none_))
    (hq : GD P main R D Stop n d (G { b.at ⟨a.tmps, ds⟩ todo with mode := .returning } cs) w) : GD P main R D Stop (n + 1) (d + 1) (G { b.at a todo with mode := .returning } cs) w :=
  gd_said tr ⟨.mark .enable, false, true⟩ hD rfl (fun w => stepG_unwind_entry (v := .tuple #[]) hd hf hname hb hn he (by simp [Extern.Race.none_]) (by simp) (by
    intro x hx'
    simp at hx'
    subst hx'
    exact ⟨rfl, fun g h => by cases h⟩)) hq
/-- A call of a function without a body may wake others. -/
theorem mayWake_call {f : FuncId} {fn : Func} {xs : Array Operand} {ats : Array TypeId} (ho : ops[i]? = some o) (hop : o.op = .call { callee := .value (.func f), args := xs, argTypes := ats }) (hf : P.funcs[f]? = some fn) (hb : fn.body.isNone = true) :
    mayWake P (G (b.at a (.inRegion ops (i :: rest) :: k)) cs) = true := by
  have h2 : fn.body = none := by simpa using hb
  have ef : (b.at a (.inRegion ops (i :: rest) :: k)).eval (.func f) = .func (.func f) #[] #[] := rfl
  simp only [mayWake, G, Frame.at, ho, hop, Option.map_some] at ef ⊢
  rw [ef]
  simp [hf, h2]
theorem quits_val {q : Nat} {v : Value} (ho : ops[i]? = some o) (hw : Region.wanted o (yielded ops a.tmps) = true) (hk : b.kind ≠ .early)
    (hr : ∀ w, ∀ K : Result Next → Prop, K (.ok (.value v) w) → K ((execOp a.eval o).run P w)) (he : ∀ w, (execOp a.eval o).events P w #[] = #[])
    (hq : QuitsD P q d (G (b.at (a.put o.dst v) (.inRegion ops rest :: k)) cs)) : QuitsD P (q + 1) d (G (b.at a (.inRegion ops (i :: rest) :: k)) cs) :=
  QuitsD.value v ho hw hk (fun w => hr w (· = .ok (.value v) w) rfl) he hq
theorem quits_more : ∀ {n d : Nat} {g : Goroutine}, QuitsD P n d g → QuitsD P (n + 1) d g
  | 0, _, _, h => .inl h
  | _ + 1, _, _, h => h.imp id fun ⟨hs, g', es, hm, hst, hq⟩ => ⟨hs, g', es, hm, hst, quits_more hq⟩
theorem quits_le {n n' d : Nat} {g : Goroutine} (h : QuitsD P n d g) (hn : n ≤ n') : QuitsD P n' d g := by
  induction hn with
  | refl => exact h
  | step _ ih => exact quits_more ih
end
theorem xb0 : bits .and .u64 8589934592 2147483648 = 0 := by decide
theorem xb1 : bits .and .u64 8589934593 2147483648 = 0 := by decide
theorem xb2 : bits .and .u64 8589934592 2147483647 = 0 := by decide
theorem xb3 : bits .and .u64 8589934593 2147483647 = 1 := by decide
theorem xb4 : bits .and .u64 12884901888 2147483648 = 0 := by decide
theorem xb5 : bits .and .u64 12884901888 2147483647 = 0 := by decide
end Go.Proofs.YtacimedkchjfnaaGreat
end
