/- Part 2 of the proof: B9, B10, B11. -/
import Derived.Test.YtacimedkchjfnaaGreatV01
section
/-! The phase: a worker's steps. -/
namespace Go.Proofs.YtacimedkchjfnaaGreat
set_option linter.unusedSimpArgs false
set_option linter.unusedVariables false
open Go.Conc
open Go.ConcR (KK wgBlock WgAt stA smA rd wr deafBehind_cons deafBehind_one)
open Go.ConcN (WgLive PermW fork_knows RelBy upd upd_same upd_ne sumTo sumTo_upd sumTo_congr le_sumTo)
theorem stage_cnt {τ τ' : WT} (h : 4 ≤ τ.stage) (h' : 4 ≤ τ'.stage) : τ'.cnt = τ.cnt := by simp [WT.cnt, h, h']
theorem cnts_upd {D : Nat → WT} {i j : Nat} {τ' : WT} (hi : i < j) : cnts j (upd D i τ') + (D i).cnt = cnts j D + τ'.cnt := sumTo_upd D τ' WT.cnt hi
namespace Ph
section
variable {x : Ph} {P : Program} {AnchS Anch : Goroutine → Prop} {j : Nat} {gs : Array Goroutine} {w w' : World} {t : Trace} {D D' : Nat → WT} {tag tag' : MT} {q : Nat → Nat} {ob oj : Nat → Option Nat} {a g g' : Goroutine} {es : Array Event} {sl : Option (Nat × Nat)}

/-- A step of worker number i's that leaves it counted. -/
theorem Mode.counted (h : x.Mode j D w tag) (htag : tag' = tag ∨ ∃ d, tag = .blk d ∧ tag' = .w3 d 0) {i : Nat} {τ' : WT} (hi : i < j) (h4 : 4 ≤ (D i).stage) (h4' : 4 ≤ τ'.stage) (hE : 6 ≤ (D i).stage → 6 ≤ τ'.stage ∨ tag.closed = true) (hw : (∃ r, tag = .prk r) → τ' ≠ .wait)
    (e : w'.heap[x.Wg]? = w.heap[x.Wg]?) : x.Mode j (upd D i τ') w' tag' := by
  have e4 : cnts j (upd D i τ') = cnts j D := by have := cnts_upd (D := D) (τ' := τ') hi; rw [stage_cnt h4 h4'] at this; omega
  have e1 : tag.closed = false → Early j D → Early j (upd D i τ') := fun hc h k hk => by
    by_cases hki : k = i
    · subst hki; rw [upd_same]
      rcases hE (h k hk) with h1 | h1
      · exact h1
      · rw [hc] at h1; cases h1
    · rw [upd_ne _ _ hki]; exact h k hk
  have e2 : NoLast j D → NoLast j (upd D i τ') := fun h k hk => by
    by_cases hki : k = i
    · subst hki; rw [upd_same]; omega
    · rw [upd_ne _ _ hki]; exact h k hk
  have ht : isW tag → isW tag' := fun h => by rcases htag with rfl | ⟨d, rfl, rfl⟩ <;> exact h
  have same : (∀ d, tag ≠ .blk d) → tag' = tag := fun hn => by rcases htag with rfl | ⟨d, rfl, rfl⟩; rfl; exact absurd rfl (hn d)
  cases h with
  | sp h1 => obtain rfl := same (by simp); exact .sp (e1 rfl h1)
  | snd h1 h2 => obtain rfl := same (by simp); exact .snd (e1 rfl h1) (wgAt_of_block h2 e)
  | @prk r h1 h2 h3 =>
    obtain rfl := same (by simp)
    refine .prk (e1 rfl h1) (fun k hk => ?_) (wgAt_of_block h3 e)
    by_cases hki : k = i
    · subst hki; rw [upd_same]; exact hw ⟨r, rfl⟩
    · rw [upd_ne _ _ hki]; exact h2 k hk
  | anch h1 h2 h3 => obtain rfl := same (by simp); exact .anch (e2 h1) (by rw [e4]; exact h2) (by rw [e4]; exact wgAt_of_block h3 e)
  | reg h0 h1 h2 h3 => exact .reg (ht h0) (e2 h1) (by rw [e4]; exact h2) (by rw [e4]; exact wgAt_of_block h3 e)
  | last L h0 h1 h2 h3 h4' =>
    by_cases hLi : L = i
    · subst hLi; omega
    · have := h3 i hi (Ne.symm hLi); omega
  | sema h1 h2 => have := h1 i hi; omega
  | fin h1 h2 => have := h1 i hi; omega

/-- THE SELECT. -/
theorem selStep (G : x.Geo) (K : x.WkS P AnchS) (ha : gs[0]? = some a) (hm : x.MSit P AnchS Anch tag a w) (h : x.Com P AnchS j gs w t D tag q ob oj) (hmode : x.Mode j D w tag)
    {i : Nat} (hi : i < j) (hg : gs[x.c + i]? = some g) (hS : AnchS g) (hst : (∃ m, D i = .sel m) ∨ (D i).stage = 7) (hdn : ∀ k, (D i).has = some k → w.cell? (x.oc k) = some (x.val k)) :
    x.Nxt P AnchS Anch (meas x.N x.c j D tag q) t (runT P (crowd gs w sl) (x.c + i)) := by
  have hc1 := G.c1
  have hlt : x.c + i < gs.size := by rw [h.size]; omega
  have hst' : (D i).stage = 6 ∨ (D i).stage = 7 := hst.imp (fun ⟨m, e⟩ => by rw [e]; rfl) id
  have hD6 : (D i).deaf = 0 := by cases hD : D i <;> rw [hD] at hst' <;> simp [WT.stage] at hst' <;> rfl
  have hDb : ∀ b, (D i).blk = some b → True := fun _ _ => trivial
  obtain ⟨g₂, hcm, hS2, hF⟩ := K.sel g w hS h.wi
  have hcm' : stepG P (x.c + i == 0) g w = .comm g₂ x.cs true .select w #[] := by
    have : (x.c + i == 0) = false := by simp; omega
    rw [this]; exact hcm
  obtain ⟨sJ, rJ, hJ⟩ := h.jch
  obtain ⟨sE, rE, hE⟩ := h.ech
  have hcs0 : x.cs[0]? = some (rcase x.J x.zj) := rfl
  have hcs1 : x.cs[1]? = some (rcase x.E x.ze) := rfl
  have pE := h.partners_send K ha hm (k := x.c + i) (c := x.E) (.inr (Ne.symm G.je))
  have same0 : ∀ y : Goroutine, (gs.setIfInBounds (x.c + i) y)[0]? = some a := fun y => by rw [Array.getElem?_setIfInBounds_ne (by omega)]; exact ha
  have sameO : ∀ y : Goroutine, ∀ k, 0 < k → k ≠ x.c + i → (gs.setIfInBounds (x.c + i) y)[k]? = gs[k]? := fun y k _ hk => Array.getElem?_setIfInBounds_ne (Ne.symm hk)
  have sameI : ∀ y : Goroutine, (gs.setIfInBounds (x.c + i) y)[x.c + i]? = some y := fun y => Array.getElem?_setIfInBounds_self_of_lt hlt
  have nil0 : ∀ (fn : FuncId) (pos : String), MemOp.ofEvents (x.c + i) fn pos #[] = #[] := fun fn pos => by rw [ofEvents_eq]; simp
  by_cases hprk : ∃ r, tag = .prk r
  · -- goroutine 0 is parked at its send: they meet
    obtain ⟨r, rfl⟩ := hprk
    have hj3 : j = 3 := h.beg
    subst hj3
    obtain ⟨r', hr, hrN, gm, rfl, hFm⟩ := hm
    cases hmode with
    | reg h0 => exact h0.elim
    | last L h0 => exact h0.elim
    | prk hEarly hnw hwg =>
    have hpJ : partners (gs.setIfInBounds (x.c + i) ph) x.J true = [(0, 0)] := by
      have h0 : (gs.setIfInBounds (x.c + i) ph)[0]? = some (parked gm (x.snd1 (x.N - r)) .send) := same0 ph
      rw [partners_one h0 fun k y hk hy => ?_]
      · rw [snd1, offersAt_parked_send, if_pos rfl]; rfl
      · rcases getElem?_stand gs _ k y hy with ⟨_, rfl⟩ | ⟨_, hy⟩
        · exact offersAt_ph _ _
        · rcases Nat.lt_or_ge k x.c with hlt' | hge
          · have hs := (h.old k y (by omega) hlt' hy).status
            exact offersAt_of_not_blocked (by rcases hs with hs | hs <;> rw [hs] <;> simp) _ _
          · have hkj : k - x.c < 3 := by have := lt_size_of_get hy; rw [h.size] at this; omega
            obtain ⟨gk, h1, h2⟩ := h.wk (k - x.c) hkj
            rw [show x.c + (k - x.c) = k by omega, hy] at h1
            obtain rfl := Option.some.inj h1
            exact (h2.offers K x.J).1
    have hrun := crowd_sel_recv_meets (sl := sl) (k := 0) hg hcm' hcs0 (fun m c' hm0 hc' => by
      rcases m with _ | _ | m
      · exact absurd rfl hm0
      · rw [hcs1] at hc'
        obtain rfl := Option.some.inj hc'
        exact ways_recv_none hE pE
      · simp [cs] at hc') hJ (show 0 ≠ x.c + i by omega) ha hpJ
    rw [hrun, nil0, Array.empty_append]
    have hWI : x.WI (w.setChan x.J 0 #[] false (sJ + 1) (rJ + 1) false) := by
      have hup := upd_setChan w x.J 0 #[] false (sJ + 1) (rJ + 1) false
      refine hup.wi h.wi (fun b e hf => hf.2.2.2.1 e) (live_of_block h.wi.live (hup.block _ (by have := G.wg; have := h.wi.size; omega) G.wgj)) (pay_of_block h.wi.pay (hup.block _ (by have := G.c; have := h.wi.size; omega) G.cj))
    obtain ⟨m, hjob⟩ := hF.job (x.N - r) (by omega) _ hWI
    have hwg' : WgAt x.ty x.Wg (w.setChan x.J 0 #[] false (sJ + 1) (rJ + 1) false) (((3 : Nat) : Int) * KK) 0 := by
      have hup := upd_setChan w x.J 0 #[] false (sJ + 1) (rJ + 1) false
      exact wgAt_of_block hwg (hup.block _ (by have := G.wg; have := h.wi.size; omega) G.wgj)
    obtain ⟨m', hM'⟩ := hFm _ hWI ⟨3, Nat.le_refl _, hwg'⟩
    have hNL : NoLast 3 D := fun k hk => by have := hEarly k hk; omega
    have hcom := h.meet G hr hrN (.inl rfl) hi hst' hdn (gs' := (gs.setIfInBounds 0 (gm.finishComm P (x.snd1 (x.N - r)) .send 0 undef false)).setIfInBounds (x.c + i) (g₂.finishComm P x.cs .select 0 (x.job (x.N - r)) true))
      (u := #[{ g := 0, fn := gm.frame.fn, pos := gm.frame.place, act := .send x.J sJ }, { g := x.c + i, fn := g₂.frame.fn, pos := g₂.frame.place, act := .recv x.J rJ 0 },
        { g := 0, fn := gm.frame.fn, pos := gm.frame.place, act := .sendDone x.J sJ }, { g := x.c + i, fn := g₂.frame.fn, pos := g₂.frame.place, act := .recvDone x.J rJ }])
      (m := m) (m' := m') (d := w.drawn) (s := sJ + 1) (rr := rJ + 1) (a' := gm.finishComm P (x.snd1 (x.N - r)) .send 0 undef false) (g' := g₂.finishComm P x.cs .select 0 (x.job (x.N - r)) true) (by simp)
      (by rw [Array.getElem?_setIfInBounds_ne (by omega), Array.getElem?_setIfInBounds_self_of_lt (by omega)])
      (by rw [Array.getElem?_setIfInBounds_self_of_lt (by simpa using hlt)])
      (fun k hk0 hk => by rw [Array.getElem?_setIfInBounds_ne (Ne.symm hk), Array.getElem?_setIfInBounds_ne (by omega)])
      ⟨by omega, hjob⟩ hNL
      (fun op ho => by
        simp only [List.mem_toArray, List.mem_cons, List.not_mem_nil, or_false] at ho
        rcases ho with rfl | rfl | rfl | rfl
        · exact ⟨.inl ⟨_, rfl⟩, .inl rfl⟩
        · exact ⟨.inr (.inr (.inl ⟨_, _, rfl⟩)), .inr rfl⟩
        · exact ⟨.inr (.inl ⟨_, rfl⟩), .inl rfl⟩
        · exact ⟨.inr (.inr (.inr (.inl ⟨_, rfl⟩))), .inr rfl⟩)
    refine ⟨_, _, rfl, .inr ⟨meas x.N x.c 3 (upd D i (.job (x.N - r) m)) (.snd r' 0 m') q, ?_, _, _, sl, 3, upd D i (.job (x.N - r) m), .snd r' 0 m', q, ob, upd oj (x.N - r) (some i), gm.finishComm P (x.snd1 (x.N - r)) .send 0 undef false, rfl, ?_, ⟨by omega, hM'⟩, hcom, .snd (fun k hk => ?_) hwg', rfl⟩⟩
    · have e1 := sumTo_upd D (.job (x.N - r) m) WT.stage hi
      refine Prod.Lex.left _ _ ?_
      simp only [rank, MT.phi]
      have : (WT.job (x.N - r) m).stage = 8 := rfl
      omega
    · rw [Array.getElem?_setIfInBounds_ne (by omega), Array.getElem?_setIfInBounds_self_of_lt (by omega)]; rfl
    · by_cases hki : k = i
      · subst hki; rw [upd_same]; simp [WT.stage]
      · rw [upd_ne _ _ hki]; exact hEarly k hk
  · have hnp : ∀ r, tag ≠ .prk r := fun r e => hprk ⟨r, e⟩
    have pJ := h.partners_send K ha hm (k := x.c + i) (c := x.J) (.inl hnp)
    cases hcl : tag.closed with
    | true =>
      -- the end is closed
      rw [hcl] at hE
      have hrun := crowd_sel_recv_closed (sl := sl) (k := 1) hg hcm' hcs1 (fun m c' hm0 hc' => by
        rcases m with _ | _ | m
        · rw [hcs0] at hc'
          obtain rfl := Option.some.inj hc'
          exact ways_recv_none hJ pJ
        · exact absurd rfl hm0
        · simp [cs] at hc') hE pE
      rw [hrun, nil0, Array.empty_append]
      obtain ⟨m, hfin⟩ := hF.fin w h.wi
      have hrec : ∀ op ∈ (#[{ g := x.c + i, fn := g₂.frame.fn, pos := g₂.frame.place, act := .recvClosed x.E }] : Array MemOp), op.g = x.c + i ∧ CommOp x.E op := fun op ho => by
        simp only [List.mem_toArray, List.mem_cons, List.not_mem_nil, or_false] at ho
        subst ho
        exact ⟨rfl, .inr (.inr (.inr (.inr rfl)))⟩
      have hcom := h.coreW G hi (.inl rfl) (gs' := gs.setIfInBounds (x.c + i) (g₂.finishComm P x.cs .select 1 x.ze false)) (w' := w) (τ' := .fin m) (ob' := ob) (by simp) (sameI _) (sameO _) (fun k hk hki => wrel_refl _ w) hfin h.wi (Nat.le_refl _) rfl rfl (fun _ => .inl rfl)
        (u := #[{ g := x.c + i, fn := g₂.frame.fn, pos := g₂.frame.place, act := .recvClosed x.E }]) (fun op ho => (hrec op ho).1)
        (fun op ho => ⟨⟨(hrec op ho).1, (hrec op ho).2.none.2.2.2.1 _, fun b hb => (by rw [(hrec op ho).2.none.1] at hb; cases hb)⟩, (hrec op ho).2.none.2.2.2.2 _ (by have := G.e; have := h.wi.size; omega)⟩)
        (by rw [deaf_quiet _ _ _ fun op ho => ⟨(hrec op ho).2.none.2.1, (hrec op ho).2.none.2.2.1⟩, h.wdeaf i hi, hD6]; rfl)
        (fun hle => absurd hle (by simp [WT.stage])) (fun b hb => by cases hb) (fun k hk => by cases hk) (fun k hk => .inr (hdn k hk)) (fun _ _ => rfl) (fun _ => by simp)
      refine ⟨_, _, rfl, .inr ⟨_, meas_upd hi (.inl rfl) (.inl (by rcases hst' with e | e <;> rw [e] <;> simp [WT.stage])), _, w, sl, j, _, tag, q, ob, oj, a, rfl, same0 _, hm, hcom, ?_, rfl⟩⟩
      exact hmode.counted (.inl rfl) hi (by rcases hst' with e | e <;> rw [e] <;> decide) (by simp [WT.stage]) (fun _ => .inr hcl) (fun _ => by simp) rfl
    | false =>
      -- it waits
      rw [hcl] at hE
      have hrun := crowd_waits (sl := sl) hg hcm' (fun cc hcc => by
        simp only [cs, List.mem_toArray, List.mem_cons, List.not_mem_nil, or_false] at hcc
        rcases hcc with rfl | rfl
        · exact ways_recv_none hJ pJ
        · exact ways_recv_none hE pE)
      rw [hrun, nil0]
      have hcom := h.coreW G hi (.inl rfl) (gs' := gs.setIfInBounds (x.c + i) (parked g₂ x.cs .select)) (w' := w) (τ' := .wait) (ob' := ob) (by simp) (sameI _) (sameO _) (fun k hk hki => wrel_refl _ w) ⟨g₂, rfl, hS2, hF⟩ h.wi (Nat.le_refl _) rfl rfl (fun _ => .inl rfl)
        (u := #[]) (fun op ho => by simp at ho) (fun op ho => by simp at ho)
        (by rw [Array.append_empty, h.wdeaf i hi, hD6]; rfl)
        (fun hle => absurd hle (by decide)) (fun b hb => by cases hb) (fun k hk => by cases hk) (fun k hk => .inr (hdn k hk)) (fun _ _ => rfl) (fun e => by rw [hcl] at e; cases e)
      refine ⟨_, _, rfl, .inr ⟨_, meas_upd hi (.inl rfl) ?_, _, w, sl, j, _, tag, q, ob, oj, a, rfl, same0 _, hm, hcom, ?_, rfl⟩⟩
      · rcases hst with ⟨m, e⟩ | e
        · exact .inr ⟨by rw [e]; rfl, by rw [e]; exact Nat.succ_pos m⟩
        · exact .inl (by rw [e]; decide)
      · exact hmode.counted (.inl rfl) hi (by rcases hst' with e | e <;> rw [e] <;> decide) (by decide) (fun _ => .inl (by decide)) (fun ⟨r, e⟩ => absurd e (hnp r)) rfl
end
end Ph
end Go.Proofs.YtacimedkchjfnaaGreat
end

section
/-! The phase: a worker's steps, on. -/
namespace Go.Proofs.YtacimedkchjfnaaGreat
set_option linter.unusedSimpArgs false
set_option linter.unusedVariables false
open Go.Conc
open Go.ConcR (KK wgBlock WgAt stA smA rd wr deafBehind_cons deafBehind_one)
open Go.ConcN (WgLive PermW fork_knows RelBy upd upd_same upd_ne sumTo sumTo_upd sumTo_congr le_sumTo)
theorem deafBehind_plain {d : Nat} {es : Array Event} (h : ∀ e ∈ es, ∃ a wr s, e = ⟨.cell a, wr, s⟩) : deafBehind d es = d :=
  deafBehind_still (fun e he => by obtain ⟨a, wr, s, rfl⟩ := h e he; exact ⟨by simp, by simp⟩) d
/-- A released worker's step: each entry names no place, or is an atomic access made deaf. -/
theorem relBy_own {a : Addr} {t : Trace} {k r d : Nat} (h : RelBy a t k r) (hd : Deaf t k = d) (fn : FuncId) (pos : String) (es : Array Event)
    (hes : (∀ e ∈ es, e.mute = true) ∨ (0 < d ∧ ∀ e ∈ es, ∃ ad wr, e = ⟨.cell ad, wr, true⟩)) : RelBy a (t ++ MemOp.ofEvents k fn pos es) k r := by
  refine h.appOwn fn pos es fun j e he => ?_
  have hm : e ∈ es := Array.mem_of_getElem? he
  rcases hes with h1 | ⟨h1, h2⟩
  · exact .inl (touch_mute (h1 e hm))
  · obtain ⟨ad, wr, rfl⟩ := h2 e hm
    refine .inr ⟨⟨ad, wr, rfl⟩, ?_⟩
    rw [deafBehind_plain fun e' he' => ?_, hd]
    · exact h1
    · obtain ⟨i, hi, rfl⟩ := Array.mem_iff_getElem.1 he'
      simp only [Array.getElem_extract]
      obtain ⟨ad', wr', e2⟩ := h2 _ (Array.getElem_mem (by simp at hi; omega : 0 + i < es.size))
      exact ⟨ad', wr', true, e2⟩
namespace Ph
section
variable {x : Ph} {P : Program} {AnchS Anch : Goroutine → Prop} {j : Nat} {gs gs' : Array Goroutine} {w w' : World} {t ops : Trace} {D D' : Nat → WT} {tag tag' : MT} {q : Nat → Nat} {ob oj ob' : Nat → Option Nat} {a a' g g' : Goroutine} {es : Array Event} {sl : Option (Nat × Nat)}

theorem nxtW {i k : Nat} {τ' : WT} (hrun : runT P (crowd gs w sl) k = (.next (crowd gs' w' sl), ops)) (hi : i < j) (htag : tag' = tag ∨ ∃ d, tag = .blk d ∧ tag' = .w3 d 0) (hlt : τ'.stage < (D i).stage ∨ (τ'.stage = (D i).stage ∧ τ'.fuel < (D i).fuel))
    (h0 : gs'[0]? = some a') (hm : x.MSit P AnchS Anch tag' a' w') (hcom : x.Com P AnchS j gs' w' (t ++ ops) (upd D i τ') tag' q ob' oj) (hmode : x.Mode j (upd D i τ') w' tag') :
    x.Nxt P AnchS Anch (meas x.N x.c j D tag q) t (runT P (crowd gs w sl) k) :=
  ⟨_, _, hrun, .inr ⟨_, meas_upd hi htag hlt, _, w', sl, j, _, tag', q, ob', oj, a', rfl, h0, hm, hcom, hmode, rfl⟩⟩

theorem ev_plain {o qq : Option Nat} (h : ∀ e ∈ es, x.EvK o qq e) : ∀ e ∈ es, ∃ a wr s, e = (⟨.cell a, wr, s⟩ : Event) := fun e he => by
  obtain ⟨a, wr, rfl, _⟩ := h e he
  exact ⟨a, wr, false, rfl⟩
section
variable (G : x.Geo) (K : x.WkS P AnchS) (ha : gs[0]? = some a) (hm : x.MSit P AnchS Anch tag a w) (h : x.Com P AnchS j gs w t D tag q ob oj) (hmode : x.Mode j D w tag) {i : Nat} (hi : i < j) (hg : gs[x.c + i]? = some g)
include G K ha hm h hmode hi hg
/-- An idle step in a world that stands. -/
theorem idle0 {τ' : WT} (hgo : stepG P false g w = .go g' w es) (hs' : x.WSit P AnchS τ' g' w) (hst : τ'.stage = (D i).stage) (hf : τ'.fuel < (D i).fuel) (hdf : deafBehind (D i).deaf es = τ'.deaf) (hhas : τ'.has = (D i).has) (hblk : τ'.blk = (D i).blk) (hwt : τ' ≠ .wait)
    (hok : ∀ fn pos, ∀ e ∈ es, x.OkW ob oj i { g := x.c + i, fn, pos, act := .ofEvent e } ∧ (MemAct.ofEvent e).low w.heap.size)
    (hrel : (D i).stage ≤ 4 → (∀ e ∈ es, e.mute = true) ∨ (0 < (D i).deaf ∧ ∀ e ∈ es, ∃ ad wr, e = ⟨.cell ad, wr, true⟩)) :
    x.Nxt P AnchS Anch (meas x.N x.c j D tag q) t (runT P (crowd gs w sl) (x.c + i)) := by
  have hc1 := G.c1
  have hgo' : stepG P (x.c + i == 0) g w = .go g' w es := by
    have : (x.c + i == 0) = false := by simp; omega
    rw [this]; exact hgo
  obtain ⟨tag', a', h0, hm', htag, hcom⟩ := h.stepW G K ha hm hi hg (g' := g') (w' := w) (es := es) (τ' := τ') (ob' := ob) (mrel_refl w) (fun k _ _ => wrel_refl _ w) hs' h.wi (Nat.le_refl _) rfl rfl (fun _ => .inl rfl) hok hdf
    (fun hle => by
      obtain ⟨r, hr⟩ := h.rel i hi (by omega)
      exact ⟨r, relBy_own hr (h.wdeaf i hi) _ _ _ (hrel (by omega))⟩)
    (fun b hb => by rw [hblk] at hb; exact h.blkb i b hi hb) (fun k hk => by rw [← hhas]; exact hk) (fun k hk => .inl (by rw [hhas]; exact hk)) (fun _ _ => rfl) hwt
  refine nxtW (runT_crowd_go hg hgo') hi htag (.inr ⟨hst, hf⟩) h0 hm' hcom ?_
  refine hmode.keep htag (fun k hk => ?_) (fun k hk e => ?_) rfl
  · by_cases hki : k = i
    · subst hki; rw [upd_same]; exact hst
    · rw [upd_ne _ _ hki]
  · by_cases hki : k = i
    · subst hki; rw [upd_same] at e; exact absurd e hwt
    · rw [upd_ne _ _ hki] at e; exact e
theorem idleD0 {τ' : WT} (hgo : stepG P false g w = .go g' w' es) (hd : x.D0 (D i).deaf w w' es) (hs' : deafBehind (D i).deaf es = (D i).deaf → x.WSit P AnchS τ' g' w) (hst : τ'.stage = (D i).stage) (h5 : 5 ≤ (D i).stage) (hf : τ'.fuel < (D i).fuel) (hdf : (D i).deaf = τ'.deaf) (hhas : τ'.has = (D i).has) (hblk : τ'.blk = (D i).blk) (hwt : τ' ≠ .wait) :
    x.Nxt P AnchS Anch (meas x.N x.c j D tag q) t (runT P (crowd gs w sl) (x.c + i)) := by
  obtain ⟨rfl, hev⟩ := hd
  have hdb : deafBehind (D i).deaf es = (D i).deaf := deafBehind_plain (ev_plain hev)
  exact idle0 G K ha hm h hmode hi hg hgo (hs' hdb) hst hf (hdb.trans hdf) hhas hblk hwt (fun fn pos e he => okW_of_evK G h.wi.size (fun b hb => by cases hb) (fun k hk => by cases hk) (hev e he) fn pos) (fun hle => by omega)
/-- An idle step of a job's. -/
theorem idleDR {k b m n' : Nat} (hD : D i = .run k b m) (hm1 : m = n' + 1) (hk : k < x.N) (hgo : stepG P false g w = .go g' w' es) (hd : x.DR b k 0 w w' es) (hs' : GD P false (x.RK (some b) (some k)) (x.DR b k) (x.AtSq AnchS k) n' (deafBehind 0 es) g' w') :
    x.Nxt P AnchS Anch (meas x.N x.c j D tag q) t (runT P (crowd gs w sl) (x.c + i)) := by
  have hc1 := G.c1
  have hgo' : stepG P (x.c + i == 0) g w = .go g' w' es := by
    have : (x.c + i == 0) = false := by simp; omega
    rw [this]; exact hgo
  have hdb : deafBehind 0 es = 0 := deafBehind_plain (ev_plain hd.evs)
  rw [hdb] at hs'
  obtain ⟨b1, b2, b3⟩ := h.blkb i b hi (by rw [hD]; rfl)
  have hup := hd.upd
  have hS : ∀ c, (c = b ∨ c = x.C) → ¬ x.Fx c := by
    rintro c (rfl | rfl) hf
    · have := hf.1; omega
    · exact hf.2.2.1 rfl
  have hgeo := G.wg
  have bwg : w'.heap[x.Wg]? = w.heap[x.Wg]? := hd.block _ (by omega) G.wgc
  have bj : w'.heap[x.J]? = w.heap[x.J]? := hd.block _ (by have := G.j; omega) (Ne.symm G.cj)
  have be : w'.heap[x.E]? = w.heap[x.E]? := hd.block _ (by have := G.e; omega) (Ne.symm G.ce)
  have hl := live_of_block h.wi.live bwg
  have hp := hd.pay h.wi.pay
  have hwi := hup.wi h.wi hS hl hp
  have hhas : (D i).has = some k := by rw [hD]; rfl
  obtain ⟨tag', a', h0, hm', htag, hcom⟩ := h.stepW G K ha hm hi hg (g' := g') (w' := w') (es := es) (τ' := .run k b n') (ob' := ob)
    (mrel_mk (hup.rm0 h.wi hS hl hp) (fun r d m e => absurd e (sp_has h hi hhas r d m)) (.inr fun V ⟨v, hv, hw⟩ => ⟨v, hv, wgAt_of_block hw bwg⟩))
    (fun k' hk' hne => wrel_of_upd hup h.wi hS hl hp (fun b' hb' => by
        obtain ⟨c1, c2, c3⟩ := h.blkb k' b' hk' hb'
        refine ⟨c2, ?_⟩
        rintro (rfl | rfl)
        · rw [b3] at c3; exact hne (Option.some.inj c3).symm
        · have := G.c; omega) (fun n hn => hd.cells n fun e => by
          obtain ⟨_, c3⟩ := h.hasb k' n hk' hn
          obtain ⟨_, c4⟩ := h.hasb i k hi hhas
          rw [e, c4] at c3
          exact hne (Option.some.inj c3).symm) fun _ => bwg)
    ⟨hk, hs'⟩ hwi (by rw [hd.size]; exact Nat.le_refl _) bj be (fun _ => .inl rfl)
    (fun fn pos e he => okW_of_evK G (by rw [hd.size]; exact h.wi.size) (fun b' hb' => by cases hb'; rw [hd.size]; exact ⟨b1, b2, b3⟩) (fun n hn => by cases hn; exact (h.hasb i k hi hhas).2) (hd.evs e he) fn pos)
    (by rw [hD]; exact hdb) (fun hle => absurd hle (by simp [WT.stage])) (fun b' hb' => by cases hb'; rw [hd.size]; exact ⟨b1, b2, b3⟩) (fun n hn => by rw [hhas]; exact hn) (fun n hn => .inl (by rw [hhas] at hn; exact hn)) (fun n hn => hd.cells n fun e => hn (by rw [hhas, e])) (by simp)
  refine nxtW (runT_crowd_go hg hgo') hi htag (.inr ⟨by rw [hD]; rfl, by rw [hD, hm1]; exact Nat.lt_succ_self _⟩) h0 hm' hcom ?_
  refine hmode.keep htag (fun k' hk' => ?_) (fun k' hk' e => ?_) bwg
  · by_cases hki : k' = i
    · subst hki; rw [upd_same, hD]; rfl
    · rw [upd_ne _ _ hki]
  · by_cases hki : k' = i
    · subst hki; rw [upd_same] at e; cases e
    · rw [upd_ne _ _ hki] at e; exact e
/-- The block of a job is laid. -/
theorem allocStep {k m : Nat} (hD : D i = .job k m) (hk : k < x.N) (hstop : x.AtA P AnchS k 0 g w) : x.Nxt P AnchS Anch (meas x.N x.c j D tag q) t (runT P (crowd gs w sl) (x.c + i)) := by
  obtain ⟨_, hrn, obj, g', hgo, m', hs'⟩ := hstop
  have hc1 := G.c1
  have hgo' : stepG P (x.c + i == 0) g w = .go g' (w.alloc obj) #[] := by
    have : (x.c + i == 0) = false := by simp; omega
    rw [this]; exact hgo
  have hup := upd_alloc w obj (S := fun _ => False)
  have hL := h.wi.size
  have bk : ∀ b, b < x.L0 → (w.alloc obj).heap[b]? = w.heap[b]? := fun b hb => hup.block b (by omega) (fun e => e)
  have bwg := bk _ G.wg
  have hl := live_of_block h.wi.live bwg
  have hp := pay_of_block h.wi.pay (bk _ G.c)
  have hwi := hup.wi h.wi (fun _ e => e.elim) hl hp
  have hhas : (D i).has = some k := by rw [hD]; rfl
  have hcell : ∀ n, (w.alloc obj).cell? (x.oc n) = w.cell? (x.oc n) := fun n => cell_of_block (bk _ G.c) n
  have hfresh : ob w.heap.size = none := by
    cases e : ob w.heap.size with
    | none => rfl
    | some n => have := (h.obs _ n e).1; omega
  obtain ⟨tag', a', h0, hm', htag, hcom⟩ := h.stepW G K ha hm hi hg (g' := g') (w' := w.alloc obj) (es := #[]) (τ' := .run k w.heap.size m') (ob' := upd ob w.heap.size (some i))
    (mrel_mk (hup.rm0 h.wi (fun _ e => e.elim) hl hp) (fun r d m e => absurd e (sp_has h hi hhas r d m)) (.inr fun V ⟨v, hv, hw⟩ => ⟨v, hv, wgAt_of_block hw bwg⟩))
    (fun k' hk' hne => wrel_of_upd hup h.wi (fun _ e => e.elim) hl hp (fun b' hb' => ⟨(h.blkb k' b' hk' hb').2.1, fun e => e⟩) (fun n _ => hcell n) fun _ => bwg)
    ⟨hk, hs'⟩ hwi hup.size (bk _ G.j) (bk _ G.e)
    (fun b => by
      by_cases hb : b = w.heap.size
      · subst hb
        exact .inr ⟨hfresh, upd_same .., by rw [World.size_alloc]; omega⟩
      · exact .inl (upd_ne _ _ hb))
    (fun fn pos e he => by simp at he) (by rw [hD]; rfl) (fun hle => absurd hle (by simp [WT.stage]))
    (fun b' hb' => by cases hb'; exact ⟨hL, by rw [World.size_alloc]; omega, upd_same ..⟩) (fun n hn => by rw [hhas]; exact hn) (fun n hn => .inl (by rw [hhas] at hn; exact hn)) (fun n _ => hcell n) (by simp)
  refine nxtW (runT_crowd_go hg hgo') hi htag (.inl (by rw [hD]; simp [WT.stage])) h0 hm' hcom ?_
  exact hmode.counted htag hi (by rw [hD]; simp [WT.stage]) (by simp [WT.stage]) (fun _ => .inl (by simp [WT.stage])) (fun _ => by simp) bwg
/-- It says 'release and merge'. -/
theorem relStep {m : Nat} (hD : D i = .fin m) (hstop : x.AtR0 P 0 g w) : x.Nxt P AnchS Anch (meas x.N x.c j D tag q) t (runT P (crowd gs w sl) (x.c + i)) := by
  obtain ⟨_, hrn, g', hgo, m', hs'⟩ := hstop
  have hc1 := G.c1
  have hgo' : stepG P (x.c + i == 0) g w = .go g' w #[Go.ConcR.mk (.releaseMerge (stA x.Wg))] := by
    have : (x.c + i == 0) = false := by simp; omega
    rw [this]; exact hgo
  have hcl : 6 ≤ (D i).stage ∨ tag.closed = true := by
    right
    have hs5 : (D i).stage = 5 := by rw [hD]; rfl
    cases hmode with
    | sp h1 => have := h1 i hi; omega
    | snd h1 => have := h1 i hi; omega
    | prk h1 => have := h1 i hi; omega
    | anch => rfl
    | reg h0 => cases tag <;> first | rfl | exact h0.elim
    | last L h0 => cases tag <;> first | rfl | exact h0.elim
    | sema => rfl
    | fin => rfl
  have hd0 := h.wdeaf i hi
  rw [hD] at hd0
  obtain ⟨tag', a', h0, hm', htag, hcom⟩ := h.stepW G K ha hm hi hg (g' := g') (w' := w) (es := #[Go.ConcR.mk (.releaseMerge (stA x.Wg))]) (τ' := .rel 0 m') (ob' := ob) (mrel_refl w) (fun k _ _ => wrel_refl _ w) hs' h.wi (Nat.le_refl _) rfl rfl (fun _ => .inl rfl)
    (fun fn pos e he => by
      rw [Array.mem_singleton] at he
      subst he
      exact okW_of_rm (by have := G.wg; have := h.wi.size; omega) fn pos)
    (by rw [hD]; rfl) (fun _ => ⟨t.size, RelBy.new hd0 _ _⟩) (fun b hb => by cases hb) (fun k hk => by cases hk) (fun k hk => by rw [hD] at hk; cases hk) (fun _ _ => rfl) (by simp)
  refine nxtW (runT_crowd_go hg hgo') hi htag (.inl (by rw [hD]; simp [WT.stage])) h0 hm' hcom ?_
  exact hmode.counted htag hi (by rw [hD]; simp [WT.stage]) (by simp [WT.stage]) (fun h6 => .inr (hcl.resolve_left (by rw [hD]; simp [WT.stage]))) (fun _ => by simp) rfl
end
end
end Ph
end Go.Proofs.YtacimedkchjfnaaGreat
end

section
/-! The phase: a worker's atomic steps; all of a worker's steps. -/
namespace Go.Proofs.YtacimedkchjfnaaGreat
set_option linter.unusedSimpArgs false
set_option linter.unusedVariables false
open Go.Conc
open Go.ConcR (KK wgBlock WgAt stA smA rd wr deafBehind_cons deafBehind_one)
open Go.ConcN (WgLive PermW fork_knows RelBy upd upd_same upd_ne sumTo sumTo_upd sumTo_congr le_sumTo)
theorem cnt_pos {D : Nat → WT} {i j : Nat} (hi : i < j) (h : 4 ≤ (D i).stage) : 1 ≤ cnts j D := by
  have := le_sumTo (f := fun k => (D k).cnt) hi
  simp only [WT.cnt, h, if_true] at this
  exact this
theorem cnts_zero {D : Nat → WT} {j : Nat} (h : cnts j D = 0) : ∀ i, i < j → (D i).stage < 4 := fun i hi => by
  have := le_sumTo (f := fun k => (D k).cnt) hi
  simp only [WT.cnt] at this
  unfold cnts at h
  simp only [WT.cnt] at h
  split at this <;> omega
theorem cnts_le {D : Nat → WT} {j : Nat} : cnts j D ≤ j := by
  unfold cnts
  induction j with
  | zero => exact Nat.le_refl _
  | succ j ih =>
    simp only [sumTo]
    have : (D j).cnt ≤ 1 := by unfold WT.cnt; split <;> omega
    omega
theorem stage_vals (τ : WT) : τ.stage = 1 ∨ τ.stage = 3 ∨ 4 ≤ τ.stage := by cases τ <;> simp [WT.stage]
namespace Ph
section
variable {x : Ph} {P : Program} {AnchS Anch : Goroutine → Prop} {j : Nat} {gs gs' : Array Goroutine} {w w' : World} {t ops : Trace} {D D' : Nat → WT} {tag tag' : MT} {q : Nat → Nat} {ob oj ob' : Nat → Option Nat} {a a' g g' : Goroutine} {es : Array Event} {sl : Option (Nat × Nat)}
theorem kk_pos {v : Nat} (h : 0 < v) : (1 : Int) < (v : Int) * KK := by unfold KK; omega
theorem kk_inj {v v' : Nat} {s s' : Nat} (hs : s ≤ 1) (hs' : s' ≤ 1) (h : (v : Int) * KK + s = (v' : Int) * KK + s') : v = v' ∧ s = s' := by unfold KK at h; omega
/-- A turn of the group's block. -/
theorem wg_upd (G : x.Geo) (hwi : x.WI w) (hup : Upd (fun k => k = x.Wg) w w') (hl : WgLive x.ty x.Wg w') :
    x.WI w' ∧ x.RM0 w w' ∧ w'.heap[x.J]? = w.heap[x.J]? ∧ w'.heap[x.E]? = w.heap[x.E]? ∧ w'.heap[x.C]? = w.heap[x.C]? ∧ (∀ n, w'.cell? (x.oc n) = w.cell? (x.oc n)) := by
  have hL := hwi.size
  have hS : ∀ b, b = x.Wg → ¬ x.Fx b := fun b e hf => hf.2.1 e
  have bc : w'.heap[x.C]? = w.heap[x.C]? := hup.block _ (by have := G.c; omega) (Ne.symm G.wgc)
  have hp := pay_of_block hwi.pay bc
  exact ⟨hup.wi hwi hS hl hp, hup.rm0 hwi hS hl hp, hup.block _ (by have := G.j; omega) (Ne.symm G.wgj), hup.block _ (by have := G.e; omega) (Ne.symm G.wge), bc, fun n => cell_of_block bc n⟩
section
variable (G : x.Geo) (K : x.WkS P AnchS) (ha : gs[0]? = some a) (hm : x.MSit P AnchS Anch tag a w) (h : x.Com P AnchS j gs w t D tag q ob oj) (hmode : x.Mode j D w tag) {i : Nat} (hi : i < j) (hg : gs[x.c + i]? = some g)
include G K ha hm h hmode hi hg
/-- A step that turns the group's block. -/
theorem wgStep {τ' : WT} (hgo : stepG P false g w = .go g' w' es) (hup : Upd (fun k => k = x.Wg) w w') (hsz : w'.heap.size = w.heap.size) (hl : WgLive x.ty x.Wg w') (hs' : x.WSit P AnchS τ' g' w') (h4 : (D i).stage ≤ 4) (h4' : τ'.stage ≤ 4)
    (hlt : τ'.stage < (D i).stage ∨ (τ'.stage = (D i).stage ∧ τ'.fuel < (D i).fuel)) (hdf : deafBehind (D i).deaf es = τ'.deaf)
    (hok : ∀ fn pos, ∀ e ∈ es, x.OkW ob oj i { g := x.c + i, fn, pos, act := .ofEvent e } ∧ (MemAct.ofEvent e).low w'.heap.size)
    (hrel : ∀ r, RelBy (stA x.Wg) t (x.c + i) r → RelBy (stA x.Wg) (t ++ MemOp.ofEvents (x.c + i) g.frame.fn g.frame.place es) (x.c + i) r)
    (hM : isW tag ∨ ((∀ r d m, tag ≠ .sp r d m) ∧ ∀ V, x.CL V w → x.CL V w')) (hL : ∀ k, k < j → k ≠ i → (D k).stage ≠ 3)
    (hmode' : ∀ tag', (tag' = tag ∨ ∃ d, tag = .blk d ∧ tag' = .w3 d 0) → (mayWake P g = true → g'.status ≠ .blocked ∧ g'.status ≠ .waiting → ∀ d, tag' ≠ .blk d) → x.Mode j (upd D i τ') w' tag') :
    x.Nxt P AnchS Anch (meas x.N x.c j D tag q) t (runT P (crowd gs w sl) (x.c + i)) := by
  have hc1 := G.c1
  have hgo' : stepG P (x.c + i == 0) g w = .go g' w' es := by
    have : (x.c + i == 0) = false := by simp; omega
    rw [this]; exact hgo
  obtain ⟨hwi, hrm0, bj, be, bc, hcell⟩ := wg_upd G h.wi hup hl
  have hblkn : ∀ {τ : WT}, τ.stage ≤ 4 → τ.blk = none ∧ τ.has = none := fun {τ} hle => by cases τ <;> simp [WT.stage] at hle <;> exact ⟨rfl, rfl⟩
  obtain ⟨tag', a', h0, hm', htag, hcom⟩ := h.stepW G K ha hm hi hg (g' := g') (w' := w') (es := es) (τ' := τ') (ob' := ob)
    (mrel_mk hrm0 (fun r d m e => hM.elim (fun h => by rw [e] at h; exact h.elim) fun h => absurd e (h.1 r d m)) (hM.imp id fun h => h.2))
    (fun k hk hne => wrel_of_upd hup h.wi (fun b e hf => hf.2.1 e) hl (pay_of_block h.wi.pay bc) (fun b' hb' => ⟨(h.blkb k b' hk hb').2.1, fun e => by have := (h.blkb k b' hk hb').1; have := G.wg; omega⟩) (fun n _ => hcell n) fun e => absurd e (hL k hk hne))
    hs' hwi (by rw [hsz]; exact Nat.le_refl _) bj be (fun _ => .inl rfl) hok hdf
    (fun _ => let ⟨r, hr⟩ := h.rel i hi h4; ⟨r, hrel r hr⟩) (fun b hb => by rw [(hblkn h4').1] at hb; cases hb) (fun k hk => by rw [(hblkn h4').2] at hk; cases hk) (fun k hk => by rw [(hblkn h4).2] at hk; cases hk) (fun n _ => hcell n) (by rintro rfl; simp [WT.stage] at h4')
  refine nxtW (runT_crowd_go hg hgo') hi htag hlt h0 hm' hcom (hmode' tag' htag fun hmw hst d e => ?_)
  -- whoever may wake wakes goroutine 0
  subst e
  obtain ⟨g₀, e0, hb⟩ := hm'
  have e1 : tag = .blk d := by rcases htag with e | ⟨_, _, e⟩ <;> first | exact e.symm | cases e
  subst e1
  obtain ⟨g₁, e2, hb'⟩ := hm
  have h00 : woken P g g' w' a = a' := by
    rw [get_ms _ _ (by omega), ha] at h0
    exact Option.some.inj h0
  have hof : a.offers = none := by
    rw [e2]
    exact (hb' w (RM0.refl w)).2.1
  have hst0 : a.status = .blocked := by rw [e2]
  have : a'.status = .running := by
    rw [← h00]
    unfold woken
    rw [if_pos (by simp [hmw, hst.1, hst.2])]
    unfold Goroutine.again
    rw [hst0, hof]
  rw [e0] at this
  cases this
/-- THE ATOMIC ADD OF -1. -/
theorem addStep {d m : Nat} (hD : D i = .rel d m) (hstop : x.AtD1 P d g w) : x.Nxt P AnchS Anch (meas x.N x.c j D tag q) t (runT P (crowd gs w sl) (x.c + i)) := by
  obtain ⟨rfl, hrn, hadd⟩ := hstop
  have hs4 : (D i).stage = 4 := by rw [hD]; rfl
  have hpos := cnt_pos hi (Nat.le_of_eq hs4.symm)
  have hcle := cnts_le (D := D) (j := j)
  have hj3 : j ≤ 3 := by rw [h.beg]; cases tag <;> simp [MT.begun]; omega
  have hev : ∀ e ∈ (#[rd (stA x.Wg), wr (stA x.Wg)] : Array Event), ∃ ad wr, e = (⟨.cell ad, wr, true⟩ : Event) ∧ ad.block = x.Wg := fun e he => by
    simp only [List.mem_toArray, List.mem_cons, List.not_mem_nil, or_false] at he
    rcases he with rfl | rfl
    · exact ⟨_, _, rfl, rfl⟩
    · exact ⟨_, _, rfl, rfl⟩
  have hcn : ∀ τ' : WT, τ'.stage < 4 → cnts j (upd D i τ') + 1 = cnts j D := fun τ' hlt => by
    have := cnts_upd (D := D) (τ' := τ') hi
    have e1 : (D i).cnt = 1 := by simp [WT.cnt, hs4]
    have e2 : τ'.cnt = 0 := by simp [WT.cnt]; omega
    omega
  -- the two kinds of the group's state
  have key : ∀ (v wt : Nat), wt ≤ 1 → cnts j D = v + 1 → WgAt x.ty x.Wg w (((v : Int) + 1) * KK + wt) 0 → (∀ k, k < j → k ≠ i → (D k).stage ≠ 3) → (isW tag ∨ (wt = 0 ∧ ∀ r d m, tag ≠ .sp r d m)) →
      (∀ τ' tag', (tag' = tag ∨ ∃ d, tag = .blk d ∧ tag' = .w3 d 0) → τ'.stage = (if v = 0 ∧ wt = 1 then 3 else 1) → ∀ w', WgAt x.ty x.Wg w' ((v : Int) * KK + wt) 0 → x.Mode j (upd D i τ') w' tag') →
      x.Nxt P AnchS Anch (meas x.N x.c j D tag q) t (runT P (crowd gs w sl) (x.c + i)) := by
    intro v wt hwt hc hwg hL hM hmd
    obtain ⟨g', hgo, hlast, hquit⟩ := hadd v wt hwt (by omega) hwg
    have hup := upd_setCell w (stA x.Wg) (.int .u64 ((v : Int) * KK + wt))
    have hwg' := hwg.setSt ((v : Int) * KK + wt)
    have hM' : isW tag ∨ ((∀ r d m, tag ≠ .sp r d m) ∧ ∀ V, x.CL V w → x.CL V (w.setCell (stA x.Wg) (.int .u64 ((v : Int) * KK + wt)))) := hM.imp id fun ⟨e, hsp⟩ => ⟨hsp, fun V ⟨v', hv', hw'⟩ => by
      subst e
      have := (wg_unique hw' hwg).1
      have e2 := kk_inj (v := v') (v' := v + 1) (s := 0) (s' := 0) (by omega) (by omega) (by simpa using this)
      exact ⟨v, by omega, by simpa using hwg'⟩⟩
    by_cases hl : v = 0 ∧ wt = 1
    · obtain ⟨m', hs'⟩ := hlast hl
      exact wgStep G K ha hm h hmode hi hg (τ' := .last 1 m') hgo hup (by simp) ⟨_, _, hwg'⟩ hs' (by omega) (by simp [WT.stage]) (.inl (by rw [hD]; simp [WT.stage])) (by rw [hD]; exact deafBehind_plain fun e he => let ⟨ad, wr, e', _⟩ := hev e he; ⟨ad, wr, true, e'⟩)
        (fun fn pos e he => by obtain ⟨ad, wr, rfl, hb⟩ := hev e he; exact okW_of_sh G (by rw [World.size_setCell]; exact h.wi.size) hb fn pos)
        (fun r hr => relBy_own hr (by rw [h.wdeaf i hi, hD]; rfl) _ _ _ (.inr ⟨Nat.one_pos, fun e he => let ⟨ad, wr, e', _⟩ := hev e he; ⟨ad, wr, e'⟩⟩)) hM' hL fun tag' ht _ => hmd _ _ ht (by rw [if_pos hl]; rfl) _ hwg'
    · obtain ⟨m', hs'⟩ := hquit hl
      exact wgStep G K ha hm h hmode hi hg (τ' := .quit 1 m') hgo hup (by simp) ⟨_, _, hwg'⟩ hs' (by omega) (by simp [WT.stage]) (.inl (by rw [hD]; simp [WT.stage])) (by rw [hD]; exact deafBehind_plain fun e he => let ⟨ad, wr, e', _⟩ := hev e he; ⟨ad, wr, true, e'⟩)
        (fun fn pos e he => by obtain ⟨ad, wr, rfl, hb⟩ := hev e he; exact okW_of_sh G (by rw [World.size_setCell]; exact h.wi.size) hb fn pos)
        (fun r hr => relBy_own hr (by rw [h.wdeaf i hi, hD]; rfl) _ _ _ (.inr ⟨Nat.one_pos, fun e he => let ⟨ad, wr, e', _⟩ := hev e he; ⟨ad, wr, e'⟩⟩)) hM' hL fun tag' ht _ => hmd _ _ ht (by rw [if_neg hl]; rfl) _ hwg'
  obtain ⟨v, hv⟩ : ∃ v, cnts j D = v + 1 := ⟨cnts j D - 1, by omega⟩
  have nl : ∀ τ' : WT, τ'.stage = 1 → NoLast j D → NoLast j (upd D i τ') := fun τ' e hn k hk => by
    by_cases hki : k = i
    · subst hki; rw [upd_same]; omega
    · rw [upd_ne _ _ hki]; exact hn k hk
  cases hmode with
  | sp h1 => have := h1 i hi; omega
  | snd h1 => have := h1 i hi; omega
  | prk h1 => have := h1 i hi; omega
  | @anch V d' m' h1 h2 h3 =>
    refine key v 0 (by omega) hv (by rw [hv] at h3; simpa using h3) (fun k hk _ => h1 k hk) (.inr ⟨rfl, by simp⟩) fun τ' tag' ht hst w' hw' => ?_
    have hst1 : τ'.stage = 1 := by simpa using hst
    have e := hcn τ' (by omega)
    rcases ht with rfl | ⟨_, e', _⟩
    · exact .anch (nl τ' hst1 h1) (by omega) (by have e3 : cnts j (upd D i τ') = v := (by omega); rw [e3]; simpa using hw')
    · cases e'
  | reg h0 h1 h2 h3 =>
    refine key v 1 (by omega) hv (by rw [hv] at h3; simpa using h3) (fun k hk _ => h1 k hk) (.inl h0) fun τ' tag' ht hst w' hw' => ?_
    have ht' : isW tag' := by rcases ht with rfl | ⟨d, rfl, rfl⟩ <;> exact h0
    have hst4 : τ'.stage < 4 := by rw [hst]; split <;> omega
    have e := hcn τ' hst4
    by_cases hv0 : v = 0
    · subst hv0
      have hst3 : τ'.stage = 3 := by rw [hst]; simp
      refine .last i ht' hi (by rw [upd_same]; exact hst3) (fun k hk hki => ?_) ⟨_, hw'⟩
      rw [upd_ne _ _ hki]
      have hk4 : (D k).stage < 4 := by
        have := cnts_zero (D := upd D i τ') (j := j) (by omega) k hk
        rwa [upd_ne _ _ hki] at this
      have := h1 k hk
      rcases stage_vals (D k) with e | e | e <;> omega
    · have hst1 : τ'.stage = 1 := by rw [hst]; simp [hv0]
      exact .reg ht' (nl τ' hst1 h1) (by omega) (by have e3 : cnts j (upd D i τ') = v := (by omega); rw [e3]; simpa using hw')
  | last L h0 h1 h2 h3 h4 =>
    by_cases hLi : i = L
    · subst hLi; omega
    · have := h3 i hi hLi; omega
  | sema h1 h2 => have := h1 i hi; omega
  | fin h1 h2 => have := h1 i hi; omega
/-- The last one's way to the semaphore. -/
theorem lastStep {d m n' : Nat} (hD : D i = .last d m) (hm1 : m = n' + 1) (hgo : stepG P false g w = .go g' w' es) (hd : x.DL d w w' es) (hs' : GD P false x.RL x.DL (x.AtD4 P) n' (deafBehind d es) g' w') :
    x.Nxt P AnchS Anch (meas x.N x.c j D tag q) t (runT P (crowd gs w sl) (x.c + i)) := by
  have hs3 : (D i).stage = 3 := by rw [hD]; rfl
  cases hmode with
  | sp h1 => have := h1 i hi; omega
  | snd h1 => have := h1 i hi; omega
  | prk h1 => have := h1 i hi; omega
  | anch h1 => exact absurd hs3 (h1 i hi)
  | reg h0 h1 => exact absurd hs3 (h1 i hi)
  | sema h1 h2 => have := h1 i hi; omega
  | fin h1 h2 => have := h1 i hi; omega
  | last L h0 h1 h2 h3 h4 =>
    obtain rfl : i = L := Classical.byContradiction fun hn => by have := h3 i hi hn; omega
    obtain ⟨st, hst⟩ := hd.wg h4
    have hdb : deafBehind d es = d := deafBehind_plain fun e he => let ⟨ad, wr, e', _⟩ := hd.evs e he; ⟨ad, wr, true, e'⟩
    refine wgStep G K ha hm h (.last i h0 h1 h2 h3 h4) hi hg (τ' := .last (deafBehind d es) n') hgo hd.upd hd.size ⟨_, _, hst⟩ hs' (by omega) (by simp [WT.stage]) (.inr ⟨by rw [hD]; rfl, by rw [hD, hm1]; exact Nat.lt_succ_self _⟩) (by rw [hD]; rfl)
      (fun fn pos e he => by obtain ⟨ad, wr, rfl, hb⟩ := hd.evs e he; exact okW_of_sh G (by rw [hd.size]; exact h.wi.size) hb fn pos)
      (fun r hr => ?_) (.inl h0) (fun k hk hne => by have := h3 k hk hne; omega) fun tag' ht _ => ?_
    · by_cases hes : es = #[]
      · subst hes
        exact relBy_own hr (h.wdeaf i hi) _ _ _ (.inl fun e he => by simp at he)
      · exact relBy_own hr (by rw [h.wdeaf i hi, hD]; rfl) _ _ _ (.inr ⟨hd.deaf hes, fun e he => let ⟨ad, wr, e', _⟩ := hd.evs e he; ⟨ad, wr, e'⟩⟩)
    · have ht' : isW tag' := by rcases ht with rfl | ⟨d, rfl, rfl⟩ <;> exact h0
      exact .last i ht' hi (by rw [upd_same]; rfl) (fun k hk hne => by rw [upd_ne _ _ hne]; exact h3 k hk hne) ⟨st, hst⟩
theorem semaStep {d m : Nat} (hD : D i = .last d m) (hstop : x.AtD4 P d g w) : x.Nxt P AnchS Anch (meas x.N x.c j D tag q) t (runT P (crowd gs w sl) (x.c + i)) := by
  obtain ⟨rfl, hrn, hmw, hwg, g', hgo, m', hq⟩ := hstop
  have hs3 : (D i).stage = 3 := by rw [hD]; rfl
  cases hmode with
  | sp h1 => have := h1 i hi; omega
  | snd h1 => have := h1 i hi; omega
  | prk h1 => have := h1 i hi; omega
  | anch h1 => exact absurd hs3 (h1 i hi)
  | reg h0 h1 => exact absurd hs3 (h1 i hi)
  | sema h1 h2 => have := h1 i hi; omega
  | fin h1 h2 => have := h1 i hi; omega
  | last L h0 h1 h2 h3 h4 =>
    obtain rfl : i = L := Classical.byContradiction fun hn => by have := h3 i hi hn; omega
    have hwg' := hwg.setSm 1
    have hstat := hq.status
    refine wgStep G K ha hm h (.last i h0 h1 h2 h3 h4) hi hg (τ' := .quit 1 m') hgo (upd_setCell w (smA x.Wg) _) (by simp) ⟨_, _, hwg'⟩ hq (by omega) (by simp [WT.stage]) (.inl (by rw [hD]; simp [WT.stage])) (by rw [hD]; rfl)
      (fun fn pos e he => ?_) (fun r hr => ?_) (.inl h0) (fun k hk hne => by have := h3 k hk hne; omega) fun tag' ht hnb => ?_
    · simp only [semEvents, List.mem_toArray, List.mem_cons, List.not_mem_nil, or_false] at he
      rcases he with rfl | rfl | rfl | rfl
      · exact okW_of_mute rfl fn pos _
      · exact okW_of_sh G (by rw [World.size_setCell]; exact h.wi.size) rfl fn pos
      · exact okW_of_sh G (by rw [World.size_setCell]; exact h.wi.size) rfl fn pos
      · exact okW_of_mute rfl fn pos _
    · refine hr.appOwn _ _ _ fun k e he => ?_
      have hdd : Deaf t (x.c + i) = 1 := by rw [h.wdeaf i hi, hD]; rfl
      rw [hdd]
      rcases k with _ | _ | _ | _ | k
      · simp [semEvents] at he; subst he; exact .inl rfl
      · simp [semEvents] at he; subst he; exact .inr ⟨⟨_, _, rfl⟩, by simp [semEvents, deafBehind]⟩
      · simp [semEvents] at he; subst he; exact .inr ⟨⟨_, _, rfl⟩, by simp [semEvents, deafBehind]⟩
      · simp [semEvents] at he; subst he; exact .inl rfl
      · simp [semEvents] at he
    · have hn := hnb hmw (by rcases hstat with e | e <;> rw [e] <;> simp)
      have haq : AllQuit j (upd D i (.quit 1 m')) := fun k hk => by
        by_cases hki : k = i
        · subst hki; rw [upd_same]; rfl
        · rw [upd_ne _ _ hki]; exact h3 k hk hki
      cases tag' with
      | w3 d'' m'' => exact .sema haq hwg'
      | blk d'' => exact absurd rfl (hn d'')
      | sp => rcases ht with rfl | ⟨_, _, e⟩ <;> first | exact h0.elim | cases e
      | snd => rcases ht with rfl | ⟨_, _, e⟩ <;> first | exact h0.elim | cases e
      | prk => rcases ht with rfl | ⟨_, _, e⟩ <;> first | exact h0.elim | cases e
      | anch => rcases ht with rfl | ⟨_, _, e⟩ <;> first | exact h0.elim | cases e
      | fin => rcases ht with rfl | ⟨_, _, e⟩ <;> first | exact h0.elim | cases e
end

/-- ████ WHATEVER STEP OF A WORKER's. ████ -/
theorem stepWorker (G : x.Geo) (K : x.WkS P AnchS) (ha : gs[0]? = some a) (hm : x.MSit P AnchS Anch tag a w) (h : x.Com P AnchS j gs w t D tag q ob oj) (hmode : x.Mode j D w tag) {i : Nat} (hi : i < j) (hg : gs[x.c + i]? = some g) (hrun : g.status = .running) :
    x.Nxt P AnchS Anch (meas x.N x.c j D tag q) t (runT P (crowd gs w sl) (x.c + i)) := by
  obtain ⟨gk, h1, h2⟩ := h.wk i hi
  rw [hg] at h1
  obtain rfl := Option.some.inj h1
  cases hD : D i with
  | wait =>
    rw [hD] at h2
    obtain ⟨g₂, rfl, _⟩ := h2
    cases hrun
  | sel m =>
    rw [hD] at h2
    rcases GD.out RK.refl h2 with ⟨_, hS⟩ | ⟨n', hn, g', w', es, hgo, hd, hs'⟩
    · exact selStep G K ha hm h hmode hi hg hS (.inl ⟨m, hD⟩) (fun k hk => by rw [hD] at hk; cases hk)
    · refine idleD0 G K ha hm h hmode hi hg (τ' := .sel n') hgo (by rw [hD]; exact hd) (fun e => ?_) (by rw [hD]; rfl) (by rw [hD]; simp [WT.stage]) (by rw [hD, hn]; exact Nat.lt_succ_self _) (by rw [hD]; rfl) (by rw [hD]; rfl) (by rw [hD]; rfl) (by simp)
      rw [hD] at e
      have e' : deafBehind 0 es = 0 := e
      rw [e'] at hs'
      obtain ⟨rfl, _⟩ := hd
      exact hs'
  | job k m =>
    rw [hD] at h2
    rcases GD.out RK.refl h2.2 with hS | ⟨n', hn, g', w', es, hgo, hd, hs'⟩
    · exact allocStep G K ha hm h hmode hi hg hD h2.1 hS
    · refine idleD0 G K ha hm h hmode hi hg (τ' := .job k n') hgo (by rw [hD]; exact hd) (fun e => ?_) (by rw [hD]; rfl) (by rw [hD]; simp [WT.stage]) (by rw [hD, hn]; exact Nat.lt_succ_self _) (by rw [hD]; rfl) (by rw [hD]; rfl) (by rw [hD]; rfl) (by simp)
      rw [hD] at e
      have e' : deafBehind 0 es = 0 := e
      rw [e'] at hs'
      obtain ⟨rfl, _⟩ := hd
      exact ⟨h2.1, hs'⟩
  | run k b m =>
    rw [hD] at h2
    rcases GD.out RK.refl h2.2 with ⟨_, hS, hc⟩ | ⟨n', hn, g', w', es, hgo, hd, hs'⟩
    · exact selStep G K ha hm h hmode hi hg hS (.inr (by rw [hD]; rfl)) (fun k' hk' => by rw [hD] at hk'; cases hk'; exact hc)
    · exact idleDR G K ha hm h hmode hi hg hD hn h2.1 hgo hd hs'
  | fin m =>
    rw [hD] at h2
    rcases GD.out RK.refl h2 with hS | ⟨n', hn, g', w', es, hgo, hd, hs'⟩
    · exact relStep G K ha hm h hmode hi hg hD hS
    · refine idleD0 G K ha hm h hmode hi hg (τ' := .fin n') hgo (by rw [hD]; exact hd) (fun e => ?_) (by rw [hD]; rfl) (by rw [hD]; simp [WT.stage]) (by rw [hD, hn]; exact Nat.lt_succ_self _) (by rw [hD]; rfl) (by rw [hD]; rfl) (by rw [hD]; rfl) (by simp)
      rw [hD] at e
      have e' : deafBehind 0 es = 0 := e
      rw [e'] at hs'
      obtain ⟨rfl, _⟩ := hd
      exact hs'
  | rel d m =>
    rw [hD] at h2
    rcases GD.out RK.refl h2 with hS | ⟨n', hn, g', w', es, hgo, hd, hs'⟩
    · exact addStep G K ha hm h hmode hi hg hD hS
    · obtain ⟨rfl, hev⟩ := hd
      exact idle0 G K ha hm h hmode hi hg (τ' := .rel (deafBehind d es) n') hgo hs' (by rw [hD]; rfl) (by rw [hD, hn]; exact Nat.lt_succ_self _) (by rw [hD]; rfl) (by rw [hD]; rfl) (by rw [hD]; rfl) (by simp)
        (fun fn pos e he => okW_of_mute (hev e he) fn pos _) (fun _ => .inl hev)
  | last d m =>
    rw [hD] at h2
    rcases GD.out RL.refl h2 with hS | ⟨n', hn, g', w', es, hgo, hd, hs'⟩
    · exact semaStep G K ha hm h hmode hi hg hD hS
    · exact lastStep G K ha hm h hmode hi hg hD hn hgo hd hs'
  | quit d m =>
    rw [hD] at h2
    cases m with
    | zero => rw [h2.1] at hrun; cases hrun
    | succ m =>
      rcases h2 with ⟨hf, _⟩ | ⟨_, g', es, hmu, hst, hq⟩
      · rw [hf] at hrun; cases hrun
      · exact idle0 G K ha hm h hmode hi hg (τ' := .quit (deafBehind d es) m) (hst w) hq (by rw [hD]; rfl) (by rw [hD]; exact Nat.lt_succ_self _) (by rw [hD]; rfl) (by rw [hD]; rfl) (by rw [hD]; rfl) (by simp)
          (fun fn pos e he => okW_of_mute (hmu e he) fn pos _) (fun _ => .inl hmu)
end
end Ph
end Go.Proofs.YtacimedkchjfnaaGreat
end
