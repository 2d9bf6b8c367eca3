/- HashRows: for every input the law returns true and its arguments read as they did; whatever the order of the goroutines' steps; on a calm tape. -/
import Derived.Test.YtacimedkchjfnaaGreatV21
import Derived.Test.YtacimedkchjfnaaGreatV23
section
/- HashRows: whatever the input, on whatever tape: true; the input reads as it did. -/
namespace Go.Proofs.YtacimedkchjfnaaGreat
open Go.ChangeShapes Go.WideShapes Go.ChangeAt Go.RowKit Go.Deep Go.Conc Go.ConcM
set_option linter.unusedSimpArgs false
set_option linter.unusedVariables false
theorem bytes9 : Tryz.prog.bytesOf 9 = 16 := by kernel_rfl
set_option maxRecDepth 20000 in
theorem open_txts_len {H : Type} {enc : TypeId × Value → H} {W : World} {v : Value} {d : DataW H} {p : List MemPlace} {ts : List TypeId} {ds : List (DataW H)} {j : Nat} {base : Nat}
    (hok : Value.okWide Tryz.prog W .any base 22 v) (h : DataW.Trod enc Tryz.prog W 0 (fun _ => true) true 22 v d p) (hsz : (DataW.weightsEach Tryz.prog ts ds).all (· ≤ reachBytes) = true) (hj : ts[j]? = some 22) (hd : ds[j]? = some d) :
    ∃ l, StrAt W v l ∧ (∀ s ∈ l, s.size ≤ 140737488355328) ∧ l.length ≤ 140737488355328 := by
  obtain ⟨l, h1, h2⟩ := open_txts hok h hsz hj hd
  refine ⟨l, h1, h2, ?_⟩
  obtain ⟨fuel, hf⟩ := h
  obtain ⟨A0, c0, rfl, _, _⟩ := h1
  rcases open_strings Tryz.underlying22 Tryz.underlying9 cellsS hf with ⟨hcs, hx⟩ | ⟨a, len', cap', ss, hcs, hb, hl, hm, hz, hx, hcell, hws⟩
  · simp [Value.cells] at hcs
    rw [hcs.2.1]
    simp
  · simp [Value.cells] at hcs
    obtain ⟨_, h3, _⟩ := hcs
    simp only [if_true] at hz
    simp only [Prod.mk.injEq] at hx
    obtain ⟨rfl, rfl⟩ := hx
    have hb1 := sized_slice hsz hj hd Tryz.underlying22
    rw [bytes9] at hb1
    simp only [strs, List.length_map, List.length_take, List.length_drop] at hb1
    have hrb : reachBytes = 140737488351232 := rfl
    omega
set_option maxRecDepth 100000 in
theorem rows_lifted (os : Os) (started : os.Started) (H : Type) (enc : TypeId × Value → H) (F : Stop.Interp) :
    ReturnsInLeavingWide Rows.hashRowsRow.assume Tryz.checked os 5 .any (Rows.hashRowsSpec.pre6 enc Tryz.prog Tryz.f5 Rows.hashRowsRow.domain false) ((OpenSpec.ofChange Rows.hashRowsSpec).postWith enc Tryz.prog Tryz.f5 F (outsideKept [.timePasses]) false true false) := by
  refine returns_shaped (C := Tryz.checked) own started Tryz.func5
    (ChangeSpec.witness6c (enc := enc) (C := Tryz.checked) ⟨#[], #[.slice none 0 0, .slice none 0 0, .int .u8 0], []⟩ 8 (by kernel_rfl) (by kernel_rfl) (by kernel_rfl) (by kernel_rfl)) ?_
  intro W base args ds gs before hshape hval0 hW hsz0
  have hval : ∀ (j : Nat) t v, Tryz.f5.params[j]? = some t → args[j]? = some v → Value.okWide Tryz.prog W .any base t v := hval0
  have hsz : (DataW.weightsEach Tryz.prog (Tryz.f5.params.toList ++ Rows.hashRowsSpec.plain.varTypes Tryz.prog) (ds ++ gs)).all (· ≤ reachBytes) = true := hsz0
  have hW' := hW
  obtain ⟨p, q, hA0, hV, rfl, hfz, hnd⟩ := hW
  have hA : DataW.TrodAll enc Tryz.prog W 0 (fun _ => true) true Tryz.f5.params.toList args.toList ds p := hA0
  rw [Tryz.params5] at hA hval hsz
  obtain ⟨v0, vs0, d0, ds0, p0, q0, hargs, rfl, rfl, h0, r0⟩ := trodAll_cons hA
  obtain ⟨v1, vs1, d1, ds1, p1, q1, rfl, rfl, rfl, h1, r1⟩ := trodAll_cons r0
  obtain ⟨v2, vs2, d2, ds2, p2, q2, rfl, rfl, rfl, h2, r2⟩ := trodAll_cons r1
  obtain ⟨rfl, rfl, rfl⟩ := trodAll_nil r2
  obtain rfl : args = #[v0, v1, v2] := by cases args; simp_all
  obtain ⟨rfl, rfl⟩ := trodVars_none hV
  have k0 := h0
  have lt0 : ∀ x ∈ p0, x.block < W.heap.size := by
    obtain ⟨m, hm⟩ := k0
    exact DataW.trod_lt m _ _ _ hm
  have k1 := h1
  have lt1 : ∀ x ∈ p1, x.block < W.heap.size := by
    obtain ⟨m, hm⟩ := k1
    exact DataW.trod_lt m _ _ _ hm
  obtain ⟨l0, hd0, hs0, hn0⟩ := open_txts_len (j := 0) (hval 0 22 v0 rfl rfl) h0 hsz rfl rfl
  obtain ⟨l1, hd1, hs1, hn1⟩ := open_txts_len (j := 1) (hval 1 22 v1 rfl rfl) h1 hsz rfl rfl
  obtain ⟨a2, rfl, rfl, rfl, w2⟩ := open_int Tryz.underlying5 (hval 2 5 v2 rfl rfl) h2
  have hb2 := bounds_u8 w2
  clear hA0 hval0 hsz0
  refine run_post (fun v W' hp => ?_) (the_run5 (nu := a2) (globOk_of hshape) hd0 hd1 hs0 hs1 hn0 hn1 hb2.1 (by omega))
  obtain ⟨rfl, bel⟩ := hp
  exact ⟨⟨_, _, _, [], _, [], hW', trodAll_mk1 (shut_bool Tryz.underlying4 _), (trodAll_cons_mk (Below.trod laidOut (by kernel_rfl) (of_decide_eq_true (by kernel_rfl)) k0 bel lt0) (trodAll_cons_mk (Below.trod laidOut (by kernel_rfl) (of_decide_eq_true (by kernel_rfl)) k1 bel lt1) (trodAll_cons_mk (shut_int Tryz.underlying5 w2) trodAll_mk0))), rfl, bel.frame _, fun h => by cases h⟩, bel.os⟩
theorem hashRows_holds : Rows.HashRowsSaid :=
  OpenClaim.holds_of_wide_leaving_time 5 Tryz.f5 rfl rfl rfl rfl rfl rfl rfl ⟨rfl, rfl, rfl, rfl, rfl⟩ rfl rfl rfl rfl rfl (by kernel_rfl) Tryz.func5 (by kernel_rfl)
    (of_decide_eq_true (by kernel_rfl)) (by unfold Func.isWrapper; first | (rw [if_pos (by decide +kernel)]; kernel_rfl) | (rw [if_neg (by decide +kernel)]; exact ⟨rfl, rfl⟩))
    (fun os started H enc _ F => rows_lifted os started H enc F)
end Go.Proofs.YtacimedkchjfnaaGreat
end
