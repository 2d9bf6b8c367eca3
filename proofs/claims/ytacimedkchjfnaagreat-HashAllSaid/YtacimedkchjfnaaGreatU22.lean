/- HashAll: for every input the law returns true and its arguments read as they did; whatever the order of the goroutines' steps; on a calm tape. -/
import Derived.Test.YtacimedkchjfnaaGreatU21
section
/-! HashAll's run. -/
namespace Go.Proofs.YtacimedkchjfnaaGreat
set_option linter.unusedSimpArgs false
set_option linter.unusedVariables false
set_option maxRecDepth 20000
open Go.Conc Go.RowKit
open Go.ConcN (sumTo upd)
set_option maxHeartbeats 4000000 in
theorem the_run4 {W : World} {keys : Value} {L : List ByteArray} {nu : Int} (hG : GlobOk W) (hK : StrAt W keys L) (hs : ∀ s ∈ L, s.size ≤ 140737488355328) (hu0 : 0 ≤ nu) (hu1 : nu < 256) :
    ∃ N last o wF t', runNT Tryz.prog (N + 1) (solo (G (Frame.enter Tryz.prog 4 #[keys, .int .u8 nu] .normal) []) W) #[] = (.ended o wF, t') ∧ runN Tryz.prog N (solo (G (Frame.enter Tryz.prog 4 #[keys, .int .u8 nu] .normal) []) W) = .next last ∧
      step Tryz.prog last = .ended o wF ∧ Go.Conc.Good Tryz.prog (fun v W' => v = .bool true ∧ Below W.heap.size W W') last o wF t' := by
  have e : Frame.enter Tryz.prog 4 #[keys, .int .u8 nu] .normal = (base 4).at ⟨#[keys, .int .u8 nu, undef, undef, undef, undef, undef, undef, undef, undef, undef, undef, undef, undef, undef, undef, undef, undef, undef, undef, undef, undef, undef, undef, undef, undef, undef, undef, undef, undef, undef, undef, undef, undef, undef, undef, undef, undef, undef, undef, undef, undef, undef, undef, undef, undef, undef, undef, undef, undef, undef, undef, undef, undef, undef, undef, undef, undef, undef, undef, undef, undef, undef, undef, undef, undef, undef, undef, undef, undef, undef, undef, undef, undef, undef, undef, undef, undef, undef, undef, undef, undef, undef, undef, undef, undef, undef, undef, undef, undef, undef, undef, undef, undef, undef, undef, undef, undef, undef, undef, undef, undef, undef, undef, undef, undef, undef, undef, undef, undef, undef], []⟩ [.code body4] := by
    simp [Frame.enter, Frame.at, Tryz.func4, base, body4, Tryz.f4]
  rw [e, solo_eq_crowd]
  clear e
  have hlv := leavers_one Tryz.prog (G ((base 4).at ⟨#[keys, .int .u8 nu, undef, undef, undef, undef, undef, undef, undef, undef, undef, undef, undef, undef, undef, undef, undef, undef, undef, undef, undef, undef, undef, undef, undef, undef, undef, undef, undef, undef, undef, undef, undef, undef, undef, undef, undef, undef, undef, undef, undef, undef, undef, undef, undef, undef, undef, undef, undef, undef, undef, undef, undef, undef, undef, undef, undef, undef, undef, undef, undef, undef, undef, undef, undef, undef, undef, undef, undef, undef, undef, undef, undef, undef, undef, undef, undef, undef, undef, undef, undef, undef, undef, undef, undef, undef, undef, undef, undef, undef, undef, undef, undef, undef, undef, undef, undef, undef, undef, undef, undef, undef, undef, undef, undef, undef, undef, undef, undef, undef, undef], []⟩ [.code body4]) [])
  have hA : ∃ A c, keys = .slice A L.length c := by obtain ⟨A, c, h, _⟩ := hK; exact ⟨A, c, h⟩
  obtain ⟨A, c, hA⟩ := hA
  have known : BW Tryz.prog (DX fun _ => False) (fun gg w2 => ∃ fr, gg = G fr [] ∧ LeaveT 4 4 fr (.bool true) ∧ GW W w2 none) (G ((base 4).at ⟨#[keys, .int .u8 nu, undef, undef, undef, undef, undef, undef, undef, undef, undef, undef, undef, undef, undef, undef, undef, undef, undef, undef, undef, undef, undef, undef, undef, undef, undef, undef, undef, undef, undef, undef, undef, undef, undef, undef, undef, undef, undef, undef, undef, undef, undef, undef, undef, undef, undef, undef, undef, undef, undef, undef, undef, undef, undef, undef, undef, undef, undef, undef, undef, undef, undef, undef, undef, undef, undef, undef, undef, undef, undef, undef, undef, undef, undef, undef, undef, undef, undef, undef, undef, undef, undef, undef, undef, undef, undef, undef, undef, undef, undef, undef, undef, undef, undef, undef, undef, undef, undef, undef, undef, undef, undef, undef, undef, undef, undef, undef, undef, undef, undef], []⟩ [.code body4]) []) W →
      ∃ N last o wF t', runNT Tryz.prog (N + 1) (crowd #[G ((base 4).at ⟨#[keys, .int .u8 nu, undef, undef, undef, undef, undef, undef, undef, undef, undef, undef, undef, undef, undef, undef, undef, undef, undef, undef, undef, undef, undef, undef, undef, undef, undef, undef, undef, undef, undef, undef, undef, undef, undef, undef, undef, undef, undef, undef, undef, undef, undef, undef, undef, undef, undef, undef, undef, undef, undef, undef, undef, undef, undef, undef, undef, undef, undef, undef, undef, undef, undef, undef, undef, undef, undef, undef, undef, undef, undef, undef, undef, undef, undef, undef, undef, undef, undef, undef, undef, undef, undef, undef, undef, undef, undef, undef, undef, undef, undef, undef, undef, undef, undef, undef, undef, undef, undef, undef, undef, undef, undef, undef, undef, undef, undef, undef, undef, undef, undef], []⟩ [.code body4]) []] W none) #[] = (.ended o wF, t') ∧ runN Tryz.prog N (crowd #[G ((base 4).at ⟨#[keys, .int .u8 nu, undef, undef, undef, undef, undef, undef, undef, undef, undef, undef, undef, undef, undef, undef, undef, undef, undef, undef, undef, undef, undef, undef, undef, undef, undef, undef, undef, undef, undef, undef, undef, undef, undef, undef, undef, undef, undef, undef, undef, undef, undef, undef, undef, undef, undef, undef, undef, undef, undef, undef, undef, undef, undef, undef, undef, undef, undef, undef, undef, undef, undef, undef, undef, undef, undef, undef, undef, undef, undef, undef, undef, undef, undef, undef, undef, undef, undef, undef, undef, undef, undef, undef, undef, undef, undef, undef, undef, undef, undef, undef, undef, undef, undef, undef, undef, undef, undef, undef, undef, undef, undef, undef, undef, undef, undef, undef, undef, undef, undef], []⟩ [.code body4]) []] W none) = .next last ∧
      step Tryz.prog last = .ended o wF ∧ Go.Conc.Good Tryz.prog (fun v W' => v = .bool true ∧ Below W.heap.size W W') last o wF t' := fun h =>
    run_post (fun v W' ⟨h1, h2, h3⟩ => ⟨h1, below_of_gw h2 h3 (Nat.le_refl _) (fun k e => by cases e)⟩) (dx_end Tryz.func4 rfl (by kernel_rfl) (fun w d h => h.at d) h rfl hlv (pastE_of past_nil))
  by_cases hn : 60 < L.length
  · exact known (begin4_many hA hn hG hK)
  by_cases hl : 600 < IntKind.i64.wrap (longL L : Nat)
  · exact known (begin4_long hA hn hl hG hK)
  clear known
  have hgo := begin4_go (nu := nu) (Shun := fun _ => False) hA hn hl hG hK hu0 hu1 (fun l h => h.elim)
  obtain ⟨k, hk⟩ : ∃ k : Nat, 1 + nu % 64 = (k : Int) := ⟨(1 + nu % 64).toNat, by omega⟩
  rw [hk] at hgo
  have hkk : clipI k = k := by unfold clipI; omega
  obtain ⟨M1, gs1, a1, w1, sl1, t1, q1, r1, h01, ⟨hp1, rfl⟩, L1, P1⟩ := dl_beside (sl := none) hgo rfl hlv (past_nil.mono (Nat.zero_le _))
  refine run_after r1 ?_
  have hsz := hp1.size
  have hK1 : StrAt w1 keys L := hK.below hp1.bl (Nat.le_refl _)
  subst hA
  obtain ⟨M2, gs2, w2, sl2, t2, q2, g, r2, h02, L2, P2, sw⟩ := shards_crowd (sl := sl1) h01 L1 P1 (fun l (h : False) => h.elim) (by omega) (keys_ready hK1 hs (fun l (h : False) => h.elim))
  refine run_after r2 ?_
  have hb2 : Below W.heap.size W w2 := hp1.bl.trans (sw.bl.mono (by omega))
  have hG2 : GlobOk w2 := hG.below hb2 hG.two
  have hK2 : StrAt w2 (.slice A L.length c) L := hK.below hb2 (Nat.le_refl _)
  have ⟨hlo, htop⟩ := And.intro sw.lo sw.top
  have hkw : ∀ a, KOf (.slice A L.length c) L a → a.block < W.heap.size := fun a ha => by
    obtain ⟨s, _, hs⟩ := kof_cell hK ha
    exact lt_of_cell hs
  have h2 := hG.two
  have hl3 := last4 (w := w2) (k := k) (m := clipI k) (nu := nu) (r := nu % 64) (r2 := nu) (Ob := W.heap.size) (C := w1.heap.size + 1) (g := g) (n := L.length) (lg := IntKind.i64.wrap (longL L : Nat)) (sl := sl2) (gs := gs2) (t := t2) (q := q2) (Shun := fun l => False ∨ ∃ a : Addr, l = .cell a ∧ a.block = g) hkk rfl (by omega) hs hK2 hG2
    (by
      obtain ⟨cs, c1, c2, c3⟩ := sw.out
      refine ⟨cs, c1, c2, fun k s hk => ?_⟩
      have := c3 k (List.getElem?_eq_some_iff.1 hk).1
      rw [hk] at this
      exact this)
    (by rw [sw.bl.block W.heap.size (by omega)]; exact hp1.o)
    ⟨by omega, htop, by omega, by omega⟩ (fun a ha => by have := hkw a ha; omega) (fun l h => h.elim False.elim id) (by rw [h02]; rfl) L2 (pastE_of P2)
  refine run_post (fun v W' ⟨h1, h3, h4⟩ => ⟨h1, hb2.trans ?_⟩) hl3
  exact below_of_gw h3 h4 (by have := sw.bl.size; omega) (fun k e => by cases e; omega)
end Go.Proofs.YtacimedkchjfnaaGreat
end

section
/- HashAll: whatever the input, on whatever tape: true; the input reads as it did. -/
namespace Go.Proofs.YtacimedkchjfnaaGreat
open Go.ChangeShapes Go.WideShapes Go.ChangeAt Go.RowKit Go.Conc Go.ConcM
set_option linter.unusedSimpArgs false
set_option linter.unusedVariables false
set_option maxRecDepth 100000 in
theorem all_lifted (os : Os) (started : os.Started) (H : Type) (enc : TypeId × Value → H) (F : Stop.Interp) :
    ReturnsInLeavingWide Rows.hashAllRow.assume Tryz.checked os 4 .any (Rows.hashAllSpec.pre6 enc Tryz.prog Tryz.f4 Rows.hashAllRow.domain false) ((OpenSpec.ofChange Rows.hashAllSpec).postWith enc Tryz.prog Tryz.f4 F (outsideKept [.timePasses]) false true false) := by
  refine returns_shaped (C := Tryz.checked) own started Tryz.func4
    (ChangeSpec.witness6c (enc := enc) (C := Tryz.checked) ⟨#[], #[.slice none 0 0, .int .u8 0], []⟩ 8 (by kernel_rfl) (by kernel_rfl) (by kernel_rfl) (by kernel_rfl)) ?_
  intro W base args ds gs before hshape hval0 hW hsz0
  have hval : ∀ (j : Nat) t v, Tryz.f4.params[j]? = some t → args[j]? = some v → Value.okWide Tryz.prog W .any base t v := hval0
  have hsz : (DataW.weightsEach Tryz.prog (Tryz.f4.params.toList ++ Rows.hashAllSpec.plain.varTypes Tryz.prog) (ds ++ gs)).all (· ≤ reachBytes) = true := hsz0
  have hW' := hW
  obtain ⟨p, q, hA0, hV, rfl, hfz, hnd⟩ := hW
  have hA : DataW.TrodAll enc Tryz.prog W 0 (fun _ => true) true Tryz.f4.params.toList args.toList ds p := hA0
  rw [Tryz.params4] at hA hval hsz
  obtain ⟨v0, vs0, d0, ds0, p0, q0, hargs, rfl, rfl, h0, r0⟩ := trodAll_cons hA
  obtain ⟨v1, vs1, d1, ds1, p1, q1, rfl, rfl, rfl, h1, r1⟩ := trodAll_cons r0
  obtain ⟨rfl, rfl, rfl⟩ := trodAll_nil r1
  obtain rfl : args = #[v0, v1] := by cases args; simp_all
  obtain ⟨rfl, rfl⟩ := trodVars_none hV
  have k0 := h0
  have lt0 : ∀ x ∈ p0, x.block < W.heap.size := by
    obtain ⟨m, hm⟩ := k0
    exact DataW.trod_lt m _ _ _ hm
  obtain ⟨l0, hd0, hs0⟩ := open_txts (j := 0) (hval 0 22 v0 rfl rfl) h0 hsz rfl rfl
  obtain ⟨a1, rfl, rfl, rfl, w1⟩ := open_int Tryz.underlying5 (hval 1 5 v1 rfl rfl) h1
  have hb1 := bounds_u8 w1
  clear hA0 hval0 hsz0
  refine run_post (fun v W' hp => ?_) (the_run4 (nu := a1) (globOk_of hshape) hd0 hs0 hb1.1 (by omega))
  obtain ⟨rfl, bel⟩ := hp
  exact ⟨⟨_, _, _, [], _, [], hW', trodAll_mk1 (shut_bool Tryz.underlying4 _), (trodAll_cons_mk (Below.trod laidOut (by kernel_rfl) (of_decide_eq_true (by kernel_rfl)) k0 bel lt0) (trodAll_cons_mk (shut_int Tryz.underlying5 w1) trodAll_mk0)), rfl, bel.frame _, fun h => by cases h⟩, bel.os⟩
theorem hashAll_holds : Rows.HashAllSaid :=
  OpenClaim.holds_of_wide_leaving_time 4 Tryz.f4 rfl rfl rfl rfl rfl rfl rfl ⟨rfl, rfl, rfl, rfl, rfl⟩ rfl rfl rfl rfl rfl (by kernel_rfl) Tryz.func4 (by kernel_rfl)
    (of_decide_eq_true (by kernel_rfl)) (by unfold Func.isWrapper; first | (rw [if_pos (by decide +kernel)]; kernel_rfl) | (rw [if_neg (by decide +kernel)]; exact ⟨rfl, rfl⟩))
    (fun os started H enc _ F => all_lifted os started H enc F)
end Go.Proofs.YtacimedkchjfnaaGreat
end
