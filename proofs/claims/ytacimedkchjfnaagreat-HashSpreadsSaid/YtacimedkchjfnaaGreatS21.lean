/- HashSpreads: for every input the law returns true and its arguments read as they did; whatever the order of the goroutines' steps; on a calm tape. -/
import Derived.Test.YtacimedkchjfnaaGreatS20
import Derived.Test.YtacimedkchjfnaaGreatRows
import Derived.WalkKit
import Derived.ProofKit
import Derived.OpenShut
import Derived.ShutString
import Derived.ChangeOld
import Derived.Below
import Derived.SizedLaws
import Derived.SliceStrings
import Derived.Conc.HoldsTime
section
/-! The rows: what a start tells, and what the arguments read. -/
namespace Go.Proofs.YtacimedkchjfnaaGreat
open Go.ChangeShapes Go.WideShapes Go.ChangeAt Go.RowKit Go.Deep Go.Conc Go.ConcM
set_option linter.unusedSimpArgs false
set_option linter.unusedVariables false
theorem own : ownKnob Tryz.prog.godebug = none := by kernel_rfl
theorem laidOut : laidOutB Tryz.prog = true := by kernel_rfl
theorem cellsS : Tryz.prog.cellsOf 9 = 1 := by kernel_rfl
theorem all_weights {H : Type} {P : Program} {e : TypeId} : ∀ {l : List (DataW H)} {d : DataW H}, d ∈ l → ∀ n ∈ d.weights P e, n ∈ DataW.weightsAll P e l
  | d0 :: l, d, hd, n, hn => by
    simp only [DataW.weightsAll, List.mem_append]
    rcases List.mem_cons.1 hd with rfl | hd
    · exact Or.inl hn
    · exact Or.inr (all_weights hd n hn)
  | [], _, hd, _, _ => by simp at hd
set_option maxRecDepth 20000 in
theorem open_txts {H : Type} {enc : TypeId × Value → H} {W : World} {v : Value} {d : DataW H} {p : List MemPlace} {ts : List TypeId} {ds : List (DataW H)} {j : Nat} {base : Nat}
    (hok : Value.okWide Tryz.prog W .any base 22 v) (h : DataW.Trod enc Tryz.prog W 0 (fun _ => true) true 22 v d p) (hsz : (DataW.weightsEach Tryz.prog ts ds).all (· ≤ reachBytes) = true) (hj : ts[j]? = some 22) (hd : ds[j]? = some d) :
    ∃ l, StrAt W v l ∧ ∀ s ∈ l, s.size ≤ 140737488355328 := by
  obtain ⟨A, len, cap, rfl⟩ := okWide_slice Tryz.underlying22 hok
  obtain ⟨fuel, hf⟩ := h
  rcases open_strings Tryz.underlying22 Tryz.underlying9 cellsS hf with ⟨hcs, hx⟩ | ⟨a, len', cap', ss, hcs, hb, hl, hm, hz, hx, hcell, hws⟩
  · simp [Value.cells] at hcs
    obtain ⟨rfl, rfl, rfl⟩ := hcs
    exact ⟨[], ⟨none, 0, rfl, by simp, fun h => by simp at h⟩, fun s hs => by simp at hs⟩
  · simp [Value.cells] at hcs
    obtain ⟨rfl, rfl, rfl⟩ := hcs
    simp only [if_true] at hz
    simp only [Prod.mk.injEq] at hx
    obtain ⟨rfl, rfl⟩ := hx
    have hlen : (ss.take len).length = len := by rw [List.length_take]; omega
    refine ⟨ss.take len, ⟨some a, cap, by rw [hlen], by rw [hlen]; unfold maxLen at hm; omega, fun hpos => ?_⟩, fun s hs => ?_⟩
    · rw [hlen] at hpos
      have h0 := hcell 0 (by omega)
      have ha : a.add 0 = a := by simp [Addr.add]
      rw [ha] at h0
      have hsp : a.spot = none := by
        unfold World.cell? at h0
        split at h0
        · split at h0
          · simp at h0
          · rename_i hns; simpa using hns
        · simp at h0
      obtain ⟨b, off, spot⟩ := a
      simp only at hsp
      subst hsp
      refine ⟨b, off, rfl, World.block_lt_of_cell? _ _ h0, fun j s hj => ?_⟩
      have hjl := (List.getElem?_eq_some_iff.1 hj).1
      rw [hlen] at hjl
      have h1 := hcell j (by omega)
      rw [Addr.add_mid] at h1
      rw [h1, List.getD_eq_getElem?_getD]
      rw [List.getElem?_take, if_pos hjl] at hj
      rw [hj]
      rfl
    · have h2 : (DataW.lit (H := H) (.string s.data.toList)) ∈ strs (H := H) (ss.take len) := List.mem_map.2 ⟨s, hs, rfl⟩
      have hw2 := all_weights (P := Tryz.prog) (e := 9) h2 s.data.toList.length (by simp [DataW.weights])
      have hw3 := DataW.weights_mem_each (P := Tryz.prog) hj hd s.data.toList.length (by
        unfold DataW.weights
        rw [Tryz.underlying22]
        simp only [List.mem_cons, List.mem_append]
        exact .inr (.inl hw2))
      have := List.all_eq_true.1 hsz _ hw3
      simp only [decide_eq_true_eq] at this
      rw [Array.length_toList] at this
      have hrb : reachBytes = 140737488351232 := rfl
      have hss : s.data.size = s.size := rfl
      omega
def tObj : Option Obj → Bool
  | some (.cells c _ _) => c.all fun v => match v with | .int _ _ => true | _ => false
  | _ => false
theorem start1 : tObj ((begin Tryz.prog (fun _ _ => 0) default).world.heap[1]?) = true := by kernel_rfl
theorem startG : Tryz.prog.globals.size = 1 := by kernel_rfl
theorem startS : Nat.ble 2 (begin Tryz.prog (fun _ _ => 0) default).world.heap.size = true := by kernel_rfl
theorem start0 : (((begin Tryz.prog (fun _ _ => 0) default).world.heap[0]?).bind Obj.row?).map (fun p => (p.1.size, p.2)) = some (1, 3) := by kernel_rfl
theorem build3 : Tryz.prog.buildable 3 = true := by kernel_rfl
theorem types3 : Tryz.prog.cellTypes Tryz.prog.depth 3 = some [3] := by kernel_rfl
/-- A row of ints names nothing and bears no text. -/
theorem ints_cl {c : Array Value} (h : ∀ v ∈ c, ∃ k n, v = .int k n) {S : Sc} {t : TypeId} {f : Nat × Nat} : ClO S (.cells c t f) := .cells _ _ _ fun v hv => by
  obtain ⟨k, n, rfl⟩ := h v hv
  exact .int _ _
set_option maxRecDepth 100000 in
theorem globOk_of {W : World} (h : World.ShapedOpen Tryz.prog W) : GlobOk W := by
  obtain ⟨h1, h2⟩ := h
  have hsz := Nat.le_of_ble_eq_true startS
  have hr := start0
  cases hrow : ((begin Tryz.prog (fun _ _ => 0) default).world.heap[0]?).bind Obj.row? with
  | none => rw [hrow] at hr; cases hr
  | some p =>
    obtain ⟨z, t⟩ := p
    rw [hrow] at hr
    simp only [Option.map_some, Option.some.injEq, Prod.mk.injEq] at hr
    obtain ⟨-, rfl⟩ := hr
    obtain ⟨c, hc, -, hok⟩ := h1 0 z 3 (by rw [startG]; omega) hrow
    obtain ⟨ts, e1, -, e3⟩ := hok build3
    rw [types3] at e1
    cases e1
    have i0 : ∀ v ∈ c, ∃ k n, v = .int k n := by
      intro v hv
      obtain ⟨i, hi⟩ := Array.getElem?_of_mem hv
      obtain ⟨u, hu, hcell⟩ := e3 i v hi
      have : u = 3 := by
        simp only [List.length_singleton, Nat.mod_one, List.getElem?_cons_zero, Option.some.injEq] at hu
        exact hu.symm
      subst this
      unfold Cell.ok at hcell
      rw [Tryz.underlying3] at hcell
      cases v <;> simp_all
    obtain ⟨o, o', ho, ho', heq⟩ := h2 1 (by rw [startG]; omega) (by omega)
    have hl : World.looseAt (1 - Tryz.prog.globals.size) = false := by rw [startG]; rfl
    rw [hl] at heq
    simp only [Bool.false_eq_true, if_false] at heq
    subst heq
    have ht := start1
    rw [ho'] at ht
    have key : ∀ b, b = 0 ∨ b = 1 → ∃ c t f, W.heap[b]? = some (.cells c t f) ∧ ∀ v ∈ c, ∃ k n, v = .int k n := by
      rintro b (rfl | rfl)
      · exact ⟨c, _, _, hc, i0⟩
      · cases o with
        | cells c1 t1 f1 =>
          refine ⟨c1, t1, f1, ho, fun v hv => ?_⟩
          have := Array.all_eq_true_iff_forall_mem.1 ht v hv
          cases v <;> simp_all
        | _ => simp [tObj] at ht
    refine ⟨?_, fun b hb o hob S => ?_, fun b hb i s hs => ?_⟩
    · have := (Array.getElem?_eq_some_iff.1 ho).1
      omega
    · obtain ⟨c, t, f, h3, h4⟩ := key b hb
      rw [h3] at hob
      cases hob
      exact ints_cl h4
    · obtain ⟨c, t, f, h3, h4⟩ := key b hb
      rw [dropCell h3] at hs
      obtain ⟨k, n, e⟩ := h4 _ (Array.mem_of_getElem? hs)
      cases e
/-- From a good run at every start: the form that tells the start's shape. -/
theorem returns_shaped {H : Type} {enc : TypeId × Value → H} {a : Assume} {C : Checked} {os : Os} {f : FuncId} {fn : Func} {s : ChangeSpec} {F : Stop.Interp} {conds : List PathCond} {apart fresh handsOn : Bool}
    (hown : ownKnob C.prog.godebug = none) (started : os.Started) (hfn : C.prog.funcs[f]? = some fn)
    (witness : ∃ (w : World) (tape : Tape) (i : Input), w.os = os ∧ (w.forCall tape i).Shaped C.prog ∧ i.vars = [] ∧ Input.okWide C.prog (w.forCall tape i) .any w.heap.size f i ∧
      s.pre6 enc C.prog fn conds apart (w.forCall tape i).memory i.args ∧ a.holds C.prog (lone (Frame.enter C.prog f i.args .normal) [] (w.forCall tape i)))
    (runs : ∀ (W : World) (base : Nat) (args : Array Value) (ds gs : List (DataW H)) (before : List MemPlace), W.ShapedOpen C.prog →
      (∀ (j : Nat) t v, fn.params[j]? = some t → args[j]? = some v → Value.okWide C.prog W .any base t v) → DataW.Whole enc C.prog fn.params.toList s.vars apart W args.toList ds gs before →
      (DataW.weightsEach C.prog (fn.params.toList ++ s.plain.varTypes C.prog) (ds ++ gs)).all (· ≤ reachBytes) = true →
      ∃ M last o w' t', runNT C.prog (M + 1) (solo (G (Frame.enter C.prog f args .normal) []) W) #[] = (.ended o w', t') ∧ runN C.prog M (solo (G (Frame.enter C.prog f args .normal) []) W) = .next last ∧
        step C.prog last = .ended o w' ∧ Conc.Good C.prog (fun v W' => s.post enc C.prog fn apart fresh handsOn false W args v W' ∧ W'.os = W.os) last o w' t') :
    ReturnsInLeavingWide a C os f .any (s.pre6 enc C.prog fn conds apart) ((OpenSpec.ofChange s).postWith enc C.prog fn F (outsideKept [.timePasses]) apart fresh handsOn) := by
  refine returnsInLeavingWide_of_good hown started witness ?_
  intro w tape i _ hsh _ hok hpre _
  obtain ⟨_, _, _, fn', hfn', _, _, _, _, hval⟩ := hok
  obtain rfl : fn' = fn := Option.some.inj (hfn'.symm.trans hfn)
  obtain ⟨⟨ds, gs, before, hw, hc⟩, hz⟩ := hpre
  have hw2 := DataW.Whole.of_heap (w' := w.forCall tape i) (by rfl) hw
  obtain ⟨M, last, o, w', t', h1, h2, h3, v, e, hp, r⟩ := runs (w.forCall tape i) w.heap.size i.args ds gs before hsh hval hw2 (hz.weights hw)
  exact ⟨M, last, o, w', t', h1, h2, h3, v, e, postWith_blind (postWith_of_post (by
    have := hp.1
    rw [show ({ w' with os := (w.forCall tape i).os } : World) = w' from by rw [← hp.2]]
    exact this) (by rw [hp.2]; exact OsLater.refl _)), r⟩
end Go.Proofs.YtacimedkchjfnaaGreat
end

section
/- HashSpreads: whatever the input, on whatever tape: true; the input reads as it did. -/
namespace Go.Proofs.YtacimedkchjfnaaGreat
open Go.ChangeShapes Go.WideShapes Go.ChangeAt Go.RowKit Go.Conc Go.ConcM
set_option linter.unusedSimpArgs false
set_option linter.unusedVariables false
set_option maxRecDepth 100000 in
theorem spreads_lifted (os : Os) (started : os.Started) (H : Type) (enc : TypeId × Value → H) (F : Stop.Interp) :
    ReturnsInLeavingWide Rows.hashSpreadsRow.assume Tryz.checked os 3 .any (Rows.hashSpreadsSpec.pre6 enc Tryz.prog Tryz.f3 Rows.hashSpreadsRow.domain false) ((OpenSpec.ofChange Rows.hashSpreadsSpec).postWith enc Tryz.prog Tryz.f3 F (outsideKept [.timePasses]) false true false) := by
  refine returns_shaped (C := Tryz.checked) own started Tryz.func3
    (ChangeSpec.witness6c (enc := enc) (C := Tryz.checked) ⟨#[], #[.slice none 0 0, .int .i64 0], []⟩ 8 (by kernel_rfl) (by kernel_rfl) (by kernel_rfl) (by kernel_rfl)) ?_
  intro W base args ds gs before hshape hval0 hW hsz0
  have hval : ∀ (j : Nat) t v, Tryz.f3.params[j]? = some t → args[j]? = some v → Value.okWide Tryz.prog W .any base t v := hval0
  have hsz : (DataW.weightsEach Tryz.prog (Tryz.f3.params.toList ++ Rows.hashSpreadsSpec.plain.varTypes Tryz.prog) (ds ++ gs)).all (· ≤ reachBytes) = true := hsz0
  have hW' := hW
  obtain ⟨p, q, hA0, hV, rfl, hfz, hnd⟩ := hW
  have hA : DataW.TrodAll enc Tryz.prog W 0 (fun _ => true) true Tryz.f3.params.toList args.toList ds p := hA0
  rw [Tryz.params3] at hA hval hsz
  obtain ⟨v0, vs0, d0, ds0, p0, q0, hargs, rfl, rfl, h0, r0⟩ := trodAll_cons hA
  obtain ⟨v1, vs1, d1, ds1, p1, q1, rfl, rfl, rfl, h1, r1⟩ := trodAll_cons r0
  obtain ⟨rfl, rfl, rfl⟩ := trodAll_nil r1
  obtain rfl : args = #[v0, v1] := by cases args; simp_all
  obtain ⟨rfl, rfl⟩ := trodVars_none hV
  have k0 := h0
  have lt0 : ∀ x ∈ p0, x.block < W.heap.size := by
    obtain ⟨m, hm⟩ := k0
    exact DataW.trod_lt m _ _ _ hm
  obtain ⟨l0, hd0, hs0⟩ := open_txts (j := 0) (hval 0 22 v0 rfl rfl) h0 hsz rfl rfl
  obtain ⟨a1, rfl, rfl, rfl, w1⟩ := open_int Tryz.underlying3 (hval 1 3 v1 rfl rfl) h1
  clear hA0 hval0 hsz0
  refine run_post (fun v W' hp => ?_) (the_run3 (nv := a1) (globOk_of hshape) hd0 hs0)
  obtain ⟨rfl, bel⟩ := hp
  exact ⟨⟨_, _, _, [], _, [], hW', trodAll_mk1 (shut_bool Tryz.underlying4 _), (trodAll_cons_mk (Below.trod laidOut (by kernel_rfl) (of_decide_eq_true (by kernel_rfl)) k0 bel lt0) (trodAll_cons_mk (shut_int Tryz.underlying3 w1) trodAll_mk0)), rfl, bel.frame _, fun h => by cases h⟩, bel.os⟩
theorem hashSpreads_holds : Rows.HashSpreadsSaid :=
  OpenClaim.holds_of_wide_leaving_time 3 Tryz.f3 rfl rfl rfl rfl rfl rfl rfl ⟨rfl, rfl, rfl, rfl, rfl⟩ rfl rfl rfl rfl rfl (by kernel_rfl) Tryz.func3 (by kernel_rfl)
    (of_decide_eq_true (by kernel_rfl)) (by unfold Func.isWrapper; first | (rw [if_pos (by decide +kernel)]; kernel_rfl) | (rw [if_neg (by decide +kernel)]; exact ⟨rfl, rfl⟩))
    (fun os started H enc _ F => spreads_lifted os started H enc F)
end Go.Proofs.YtacimedkchjfnaaGreat
end
