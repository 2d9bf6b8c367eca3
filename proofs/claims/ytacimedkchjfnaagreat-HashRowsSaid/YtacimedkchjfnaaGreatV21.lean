/- Part 21 of the proof: F0, D6, E9, E10. -/
import Derived.Test.YtacimedkchjfnaaGreatV20
import Derived.Test.YtacimedkchjfnaaGreatRows
import Derived.WalkKit
import Derived.ProofKit
import Derived.OpenShut
import Derived.ShutString
import Derived.ChangeOld
import Derived.Below
import Derived.SizedLaws
import Derived.SliceStrings
import Derived.Conc.HoldsTime
import Derived.Test.YtacimedkchjfnaaGreatV19
section
/-! The rows: what a start tells, and what the arguments read. -/
namespace Go.Proofs.YtacimedkchjfnaaGreat
open Go.ChangeShapes Go.WideShapes Go.ChangeAt Go.RowKit Go.Deep Go.Conc Go.ConcM
set_option linter.unusedSimpArgs false
set_option linter.unusedVariables false
theorem own : ownKnob Tryz.prog.godebug = none := by kernel_rfl
theorem laidOut : laidOutB Tryz.prog = true := by kernel_rfl
theorem cellsS : Tryz.prog.cellsOf 9 = 1 := by kernel_rfl
theorem all_weights {H : Type} {P : Program} {e : TypeId} : ∀ {l : List (DataW H)} {d : DataW H}, d ∈ l → ∀ n ∈ d.weights P e, n ∈ DataW.weightsAll P e l
  | d0 :: l, d, hd, n, hn => by
    simp only [DataW.weightsAll, List.mem_append]
    rcases List.mem_cons.1 hd with rfl | hd
    · exact Or.inl hn
    · exact Or.inr (all_weights hd n hn)
  | [], _, hd, _, _ => by simp at hd
set_option maxRecDepth 20000 in
theorem open_txts {H : Type} {enc : TypeId × Value → H} {W : World} {v : Value} {d : DataW H} {p : List MemPlace} {ts : List TypeId} {ds : List (DataW H)} {j : Nat} {base : Nat}
    (hok : Value.okWide Tryz.prog W .any base 22 v) (h : DataW.Trod enc Tryz.prog W 0 (fun _ => true) true 22 v d p) (hsz : (DataW.weightsEach Tryz.prog ts ds).all (· ≤ reachBytes) = true) (hj : ts[j]? = some 22) (hd : ds[j]? = some d) :
    ∃ l, StrAt W v l ∧ ∀ s ∈ l, s.size ≤ 140737488355328 := by
  obtain ⟨A, len, cap, rfl⟩ := okWide_slice Tryz.underlying22 hok
  obtain ⟨fuel, hf⟩ := h
  rcases open_strings Tryz.underlying22 Tryz.underlying9 cellsS hf with ⟨hcs, hx⟩ | ⟨a, len', cap', ss, hcs, hb, hl, hm, hz, hx, hcell, hws⟩
  · simp [Value.cells] at hcs
    obtain ⟨rfl, rfl, rfl⟩ := hcs
    exact ⟨[], ⟨none, 0, rfl, by simp, fun h => by simp at h⟩, fun s hs => by simp at hs⟩
  · simp [Value.cells] at hcs
    obtain ⟨rfl, rfl, rfl⟩ := hcs
    simp only [if_true] at hz
    simp only [Prod.mk.injEq] at hx
    obtain ⟨rfl, rfl⟩ := hx
    have hlen : (ss.take len).length = len := by rw [List.length_take]; omega
    refine ⟨ss.take len, ⟨some a, cap, by rw [hlen], by rw [hlen]; unfold maxLen at hm; omega, fun hpos => ?_⟩, fun s hs => ?_⟩
    · rw [hlen] at hpos
      have h0 := hcell 0 (by omega)
      have ha : a.add 0 = a := by simp [Addr.add]
      rw [ha] at h0
      have hsp : a.spot = none := by
        unfold World.cell? at h0
        split at h0
        · split at h0
          · simp at h0
          · rename_i hns; simpa using hns
        · simp at h0
      obtain ⟨b, off, spot⟩ := a
      simp only at hsp
      subst hsp
      refine ⟨b, off, rfl, World.block_lt_of_cell? _ _ h0, fun j s hj => ?_⟩
      have hjl := (List.getElem?_eq_some_iff.1 hj).1
      rw [hlen] at hjl
      have h1 := hcell j (by omega)
      rw [Addr.add_mid] at h1
      rw [h1, List.getD_eq_getElem?_getD]
      rw [List.getElem?_take, if_pos hjl] at hj
      rw [hj]
      rfl
    · have h2 : (DataW.lit (H := H) (.string s.data.toList)) ∈ strs (H := H) (ss.take len) := List.mem_map.2 ⟨s, hs, rfl⟩
      have hw2 := all_weights (P := Tryz.prog) (e := 9) h2 s.data.toList.length (by simp [DataW.weights])
      have hw3 := DataW.weights_mem_each (P := Tryz.prog) hj hd s.data.toList.length (by
        unfold DataW.weights
        rw [Tryz.underlying22]
        simp only [List.mem_cons, List.mem_append]
        exact .inr (.inl hw2))
      have := List.all_eq_true.1 hsz _ hw3
      simp only [decide_eq_true_eq] at this
      rw [Array.length_toList] at this
      have hrb : reachBytes = 140737488351232 := rfl
      have hss : s.data.size = s.size := rfl
      omega
def tObj : Option Obj → Bool
  | some (.cells c _ _) => c.all fun v => match v with | .int _ _ => true | _ => false
  | _ => false
theorem start1 : tObj ((begin Tryz.prog (fun _ _ => 0) default).world.heap[1]?) = true := by kernel_rfl
theorem startG : Tryz.prog.globals.size = 1 := by kernel_rfl
theorem startS : Nat.ble 2 (begin Tryz.prog (fun _ _ => 0) default).world.heap.size = true := by kernel_rfl
theorem start0 : (((begin Tryz.prog (fun _ _ => 0) default).world.heap[0]?).bind Obj.row?).map (fun p => (p.1.size, p.2)) = some (1, 3) := by kernel_rfl
theorem build3 : Tryz.prog.buildable 3 = true := by kernel_rfl
theorem types3 : Tryz.prog.cellTypes Tryz.prog.depth 3 = some [3] := by kernel_rfl
/-- A row of ints names nothing and bears no text. -/
theorem ints_cl {c : Array Value} (h : ∀ v ∈ c, ∃ k n, v = .int k n) {S : Sc} {t : TypeId} {f : Nat × Nat} : ClO S (.cells c t f) := .cells _ _ _ fun v hv => by
  obtain ⟨k, n, rfl⟩ := h v hv
  exact .int _ _
set_option maxRecDepth 100000 in
theorem globOk_of {W : World} (h : World.ShapedOpen Tryz.prog W) : GlobOk W := by
  obtain ⟨h1, h2⟩ := h
  have hsz := Nat.le_of_ble_eq_true startS
  have hr := start0
  cases hrow : ((begin Tryz.prog (fun _ _ => 0) default).world.heap[0]?).bind Obj.row? with
  | none => rw [hrow] at hr; cases hr
  | some p =>
    obtain ⟨z, t⟩ := p
    rw [hrow] at hr
    simp only [Option.map_some, Option.some.injEq, Prod.mk.injEq] at hr
    obtain ⟨-, rfl⟩ := hr
    obtain ⟨c, hc, -, hok⟩ := h1 0 z 3 (by rw [startG]; omega) hrow
    obtain ⟨ts, e1, -, e3⟩ := hok build3
    rw [types3] at e1
    cases e1
    have i0 : ∀ v ∈ c, ∃ k n, v = .int k n := by
      intro v hv
      obtain ⟨i, hi⟩ := Array.getElem?_of_mem hv
      obtain ⟨u, hu, hcell⟩ := e3 i v hi
      have : u = 3 := by
        simp only [List.length_singleton, Nat.mod_one, List.getElem?_cons_zero, Option.some.injEq] at hu
        exact hu.symm
      subst this
      unfold Cell.ok at hcell
      rw [Tryz.underlying3] at hcell
      cases v <;> simp_all
    obtain ⟨o, o', ho, ho', heq⟩ := h2 1 (by rw [startG]; omega) (by omega)
    have hl : World.looseAt (1 - Tryz.prog.globals.size) = false := by rw [startG]; rfl
    rw [hl] at heq
    simp only [Bool.false_eq_true, if_false] at heq
    subst heq
    have ht := start1
    rw [ho'] at ht
    have key : ∀ b, b = 0 ∨ b = 1 → ∃ c t f, W.heap[b]? = some (.cells c t f) ∧ ∀ v ∈ c, ∃ k n, v = .int k n := by
      rintro b (rfl | rfl)
      · exact ⟨c, _, _, hc, i0⟩
      · cases o with
        | cells c1 t1 f1 =>
          refine ⟨c1, t1, f1, ho, fun v hv => ?_⟩
          have := Array.all_eq_true_iff_forall_mem.1 ht v hv
          cases v <;> simp_all
        | _ => simp [tObj] at ht
    refine ⟨?_, fun b hb o hob S => ?_, fun b hb i s hs => ?_⟩
    · have := (Array.getElem?_eq_some_iff.1 ho).1
      omega
    · obtain ⟨c, t, f, h3, h4⟩ := key b hb
      rw [h3] at hob
      cases hob
      exact ints_cl h4
    · obtain ⟨c, t, f, h3, h4⟩ := key b hb
      rw [dropCell h3] at hs
      obtain ⟨k, n, e⟩ := h4 _ (Array.mem_of_getElem? hs)
      cases e
/-- From a good run at every start: the form that tells the start's shape. -/
theorem returns_shaped {H : Type} {enc : TypeId × Value → H} {a : Assume} {C : Checked} {os : Os} {f : FuncId} {fn : Func} {s : ChangeSpec} {F : Stop.Interp} {conds : List PathCond} {apart fresh handsOn : Bool}
    (hown : ownKnob C.prog.godebug = none) (started : os.Started) (hfn : C.prog.funcs[f]? = some fn)
    (witness : ∃ (w : World) (tape : Tape) (i : Input), w.os = os ∧ (w.forCall tape i).Shaped C.prog ∧ i.vars = [] ∧ Input.okWide C.prog (w.forCall tape i) .any w.heap.size f i ∧
      s.pre6 enc C.prog fn conds apart (w.forCall tape i).memory i.args ∧ a.holds C.prog (lone (Frame.enter C.prog f i.args .normal) [] (w.forCall tape i)))
    (runs : ∀ (W : World) (base : Nat) (args : Array Value) (ds gs : List (DataW H)) (before : List MemPlace), W.ShapedOpen C.prog →
      (∀ (j : Nat) t v, fn.params[j]? = some t → args[j]? = some v → Value.okWide C.prog W .any base t v) → DataW.Whole enc C.prog fn.params.toList s.vars apart W args.toList ds gs before →
      (DataW.weightsEach C.prog (fn.params.toList ++ s.plain.varTypes C.prog) (ds ++ gs)).all (· ≤ reachBytes) = true →
      ∃ M last o w' t', runNT C.prog (M + 1) (solo (G (Frame.enter C.prog f args .normal) []) W) #[] = (.ended o w', t') ∧ runN C.prog M (solo (G (Frame.enter C.prog f args .normal) []) W) = .next last ∧
        step C.prog last = .ended o w' ∧ Conc.Good C.prog (fun v W' => s.post enc C.prog fn apart fresh handsOn false W args v W' ∧ W'.os = W.os) last o w' t') :
    ReturnsInLeavingWide a C os f .any (s.pre6 enc C.prog fn conds apart) ((OpenSpec.ofChange s).postWith enc C.prog fn F (outsideKept [.timePasses]) apart fresh handsOn) := by
  refine returnsInLeavingWide_of_good hown started witness ?_
  intro w tape i _ hsh _ hok hpre _
  obtain ⟨_, _, _, fn', hfn', _, _, _, _, hval⟩ := hok
  obtain rfl : fn' = fn := Option.some.inj (hfn'.symm.trans hfn)
  obtain ⟨⟨ds, gs, before, hw, hc⟩, hz⟩ := hpre
  have hw2 := DataW.Whole.of_heap (w' := w.forCall tape i) (by rfl) hw
  obtain ⟨M, last, o, w', t', h1, h2, h3, v, e, hp, r⟩ := runs (w.forCall tape i) w.heap.size i.args ds gs before hsh hval hw2 (hz.weights hw)
  exact ⟨M, last, o, w', t', h1, h2, h3, v, e, postWith_blind (postWith_of_post (by
    have := hp.1
    rw [show ({ w' with os := (w.forCall tape i).os } : World) = w' from by rw [← hp.2]]
    exact this) (by rw [hp.2]; exact OsLater.refl _)), r⟩
end Go.Proofs.YtacimedkchjfnaaGreat
end

section
/-! HashAll behind its Spread: the walk. -/
namespace Go.Proofs.YtacimedkchjfnaaGreat
open Go.RowKit
set_option linter.unusedSimpArgs false
set_option linter.unusedVariables false
attribute [local go_sem ↓] Go.wp_at_zero Go.wp_at_succ

noncomputable def body4 : Code := Tryz.f4.body.getD .skip
noncomputable def ops44 : Array Oper := match body4 with
  | .seq _ (.seq _ (.seq _ (.seq (.region _ ops _) _))) => ops
  | _ => #[]
noncomputable def rest44 : Code := match body4 with
  | .seq _ (.seq _ (.seq _ (.seq _ r))) => r
  | _ => .skip
/-- HashAll's slots at its call of Spread; r: n%64. -/
def T4 (keys : Value) (nu k n lg r r2 : Int) (v : Value) : Array Value :=
  #[keys, .int .u8 nu, undef, undef, .bool false, .int .i64 k, undef, undef, undef, undef, undef, undef, undef, undef, keys, .int .i64 n, .bool false, .bool false, keys, .int .i64 lg, .bool false, .bool false, undef, .int .u8 nu, .int .i64 r2, .int .i64 r, .int .i64 k, keys, .int .i64 k, v, undef, undef, undef, undef, undef, undef, undef, undef, undef, undef, undef, undef, undef, undef, undef, undef, undef, undef, undef, undef, undef, undef, undef, undef, undef, undef, undef, undef, undef, undef, undef, undef, undef, undef, undef, undef, undef, undef, undef, undef, undef, undef, undef, undef, undef, undef, undef, undef, undef, undef, undef, undef, undef, undef, undef, undef, undef, undef, undef, undef, undef, undef, undef, undef, undef, undef, undef, undef, undef, undef, undef, undef, undef, undef, undef, undef, undef, undef, undef, undef, undef]
/-- The keys whose shard is below k. -/
def cnt (L : List ByteArray) (n : Int) (k : Nat) : Nat := (L.filter fun d => decide (shardN d n < k)).length
theorem cnt_zero (L : List ByteArray) (n : Int) : cnt L n 0 = 0 := by simp [cnt]
theorem cnt_succ (L : List ByteArray) (n : Int) (k : Nat) : cnt L n (k + 1) = cnt L n k + (spreadF L n k).length := by
  unfold cnt spreadF
  induction L with
  | nil => rfl
  | cons d L ih =>
    simp only [List.filter_cons]
    rcases Nat.lt_trichotomy (shardN d n) k with h | h | h
    · have h1 : shardN d n < k + 1 := by omega
      have h2 : ¬ shardN d n = k := by omega
      simp [h, h1, h2, ih]; omega
    · have h1 : shardN d n < k + 1 := by omega
      have h2 : ¬ shardN d n < k := by omega
      simp [h, h1, h2, ih]; omega
    · have h1 : ¬ shardN d n < k + 1 := by omega
      have h2 : ¬ shardN d n < k := by omega
      have h3 : ¬ shardN d n = k := by omega
      simp [h1, h2, h3, ih]
theorem cnt_le (L : List ByteArray) (n : Int) (k : Nat) : cnt L n k ≤ L.length := List.length_filter_le ..
theorem cnt_top (L : List ByteArray) (n : Int) : cnt L n (clipI n) = L.length := by
  unfold cnt
  rw [List.filter_eq_self.2 fun d _ => decide_eq_true (shardN_lt d n)]
theorem spreadF_mem {L : List ByteArray} {n : Int} {k : Nat} {d : ByteArray} : d ∈ spreadF L n k ↔ d ∈ L ∧ shardN d n = k := by simp [spreadF]
theorem spreadF_len (L : List ByteArray) (n : Int) (k : Nat) : (spreadF L n k).length ≤ L.length := List.length_filter_le ..
theorem RowsR.row {w : World} {v : Value} {L : List ByteArray} {n : Int} (h : RowsR w v (spreadRows L n)) : ∃ (g off c : Nat) (vs : List Value), v = .slice (some ⟨g, off, none⟩) (clipI n) c ∧ g < w.heap.size ∧
    ∀ j, j < clipI n → ∃ (u : Value) (A : Option Addr) (cc : Nat), u = .slice A (spreadF L n j).length cc ∧ w.cell? ⟨g, off + j, none⟩ = some u ∧ (0 < (spreadF L n j).length → ∃ g off, A = some ⟨g, off, none⟩ ∧ ∀ (y : Nat) s, (spreadF L n j)[y]? = some s → w.cell? ⟨g, off + y, none⟩ = some (.string s)) := by
  obtain ⟨A, c, vs, h1, h2, h3, h4, h5⟩ := h
  have hb := clipI_bounds n
  rw [spreadRows_len] at h1 h2 h3 h4
  obtain ⟨g, off, rfl, h6, h7⟩ := h4 (by omega)
  refine ⟨g, off, c, vs, h1, h6, fun j hj => ?_⟩
  have hu : vs[j]? = some vs[j] := List.getElem?_eq_getElem (by omega)
  have hl : (spreadRows L n)[j]? = some (spreadF L n j) := by simp [spreadRows, hj]
  obtain ⟨A2, c2, e, _, h8⟩ := h5 j _ _ hu hl
  refine ⟨_, A2, c2, e, h7 j _ hu, fun hpos => ?_⟩
  obtain ⟨g2, off2, e2, _, h9⟩ := h8 hpos
  exact ⟨g2, off2, e2, h9⟩
/-- Whether the text stands ahead of place y. -/
def Fnd (f : Bool) (row : List ByteArray) (d : ByteArray) (y : Nat) : Prop := f = true ↔ ∃ j, j < y ∧ row[j]? = some d
theorem fnd_zero {row : List ByteArray} {d : ByteArray} : Fnd false row d 0 := ⟨fun h => (by cases h), fun ⟨j, hj, _⟩ => by omega⟩
theorem fnd_old {row : List ByteArray} {d : ByteArray} {y : Nat} (h : Fnd true row d y) : Fnd true row d (y + 1) := ⟨fun _ => by
  obtain ⟨j, hj, e⟩ := h.1 rfl
  exact ⟨j, by omega, e⟩, fun _ => rfl⟩
theorem fnd_new {row : List ByteArray} {d d2 : ByteArray} {y : Nat} (h : row[y]? = some d2) (e : d2 = d) : Fnd true row d (y + 1) := ⟨fun _ => ⟨y, by omega, by rw [h, e]⟩, fun _ => rfl⟩
theorem fnd_no {row : List ByteArray} {d d2 : ByteArray} {y : Nat} (h : Fnd false row d y) (h2 : row[y]? = some d2) (hn : ¬ d2 = d) : Fnd false row d (y + 1) := ⟨fun h => (by cases h), fun ⟨j, hj, e⟩ => by
  rcases Nat.lt_or_ge j y with hl | hl
  · exact h.2 ⟨j, hl, e⟩
  · obtain rfl : j = y := by omega
    rw [h2] at e
    injection e with e
    exact absurd e hn⟩
theorem fnd_end {f : Bool} {row : List ByteArray} {d : ByteArray} (h : Fnd f row d row.length) (hm : d ∈ row) : f = true := h.2 (by
  obtain ⟨j, hj, e⟩ := List.mem_iff_getElem.1 hm
  exact ⟨j, hj, by rw [List.getElem?_eq_getElem hj, e]⟩)
set_option maxRecDepth 20000 in
set_option maxHeartbeats 16000000 in
theorem rest4 {w : World} {keys v : Value} {L : List ByteArray} {k : Nat} {nu n lg r r2 : Int} (hk : clipI k = k) (hK : StrAt w keys L) (hN : L.length ≤ 1000000) (hs : ∀ s ∈ L, s.size ≤ 140737488355328) (hv : RowsR w v (spreadRows L k)) :
    RestRuns Tryz.prog 4 [.inRegion ops44 [3], .code rest44] ⟨T4 keys nu k n lg r r2 v, []⟩ w (fun r w' => r = .bool true ∧ Below w.heap.size w w') := by
  refine rest1_of_wp Tryz.func4 ?_
  obtain ⟨gR, oR, cR, vs, rfl, hgR, hrow⟩ := hv.row
  rw [hk] at hrow ⊢
  obtain ⟨A, c, rfl, hl, hr⟩ := hK
  have HR := Asd.mk hr
  have HROW := Asd.mk hrow
  have HN := Asd.mk hN
  have HS := Asd.mk hs
  have HK := Asd.mk hk
  have hk64 : k ≤ 64 := by have := clipI_bounds k; omega
  have hk0 : 1 ≤ k := by have := clipI_bounds k; omega
  have HSH : ∀ (d : ByteArray) (w' : World), d ∈ L → Asd (Calls Tryz.prog 11 #[.string d, .int .i64 k] w' fun e w'' => e = .returned (.int .i64 (shardN d k : Nat)) ∧ w' = w'') := fun d w' hd => ⟨shard_calls d k w' (hs d hd)⟩
  clear hr hrow hN hs hk hv
  rw [range_ops (l := [3]) [ops44.getD 3 default] 3 (by
    intro j
    simp only [ops44, body4, Tryz.f4, Option.getD_some]
    match j with
    | 0 => rfl
    | j + 1 => simp only [List.getElem?_cons_succ, List.getElem?_nil]; rw [Array.getElem?_eq_none]; simp; omega) rfl]
  simp only [ops44, rest44, body4, Tryz.f4, Option.getD_some, T4]
  have hneq : ((k : Int) != (k : Int)) = false := by simp
  go_wp2
  go_loopg [7, 8] k (fun kq v7 v8 wr => ∃ i : Nat, v8 = .int .i64 (i : Int) ∧ v7 = .int .i64 ((cnt L k i : Nat) : Int) ∧ Asd (kq + i = k) ∧ Asd (wr = w))
  case atStart => exact ⟨0, rfl, by rw [cnt_zero]; rfl, ⟨by omega⟩, ⟨rfl⟩⟩
  case round =>
    obtain ⟨i, rfl, rfl, HI, HW⟩ := hrel
    have hi := HI.out
    obtain rfl := HW.out
    clear HW
    cases gk with
    | zero =>
      obtain rfl : i = k := by omega
      have hlt2 : decide (i < i) = false := by simp
      have ht : cnt L i i = L.length := by have := cnt_top L i; rwa [HK.out] at this
      rw [ht]
      clear hi ht
      go_wp2_with fail
      have H0 : Asd (∃ m, wr = wr.drewN m) := ⟨0, rfl⟩
      have HK2 : Asd (clipI i = i) := HK
      go_loopg [10] L.length (fun kq v10 w2 => ∃ x : Nat, v10 = .int .i64 (x : Int) ∧ Asd (kq + x = L.length) ∧ Asd (∃ m, w2 = wr.drewN m))
      case atStart => exact ⟨0, rfl, ⟨by omega⟩, H0⟩
      case round =>
        clear H0
        obtain ⟨x, rfl, HX, HW⟩ := hrel
        have hx := HX.out
        obtain ⟨m, rfl⟩ := HW.out
        clear HW
        cases gk with
        | zero =>
          obtain rfl : x = L.length := by omega
          have hlt3 : decide (L.length < L.length) = false := by simp
          clear hx
          go_wp2_with fail
          refine (known_calls _).mono ?_
          rintro e w4 ⟨rfl, hb4⟩
          have HB4 : Asd (Below wr.heap.size wr w4) := ⟨⟨hb4.os, hb4.tape, hb4.output, hb4.size, hb4.block⟩⟩
          clear hb4
          go_wp2_with fail
          go_ret
          exact ⟨_, rfl, rfl, HB4.out⟩
        | succ k2 =>
          have hxl : x < L.length := by omega
          have hlt3 : decide (x < L.length) = true := decide_eq_true hxl
          obtain ⟨gK, oK, rfl, hgK, hcellK⟩ := HR.out (by omega)
          obtain ⟨d, hd⟩ : ∃ d, L[x]? = some d := ⟨_, List.getElem?_eq_getElem hxl⟩
          have hkey : wr.cell? ⟨gK, oK + x, none⟩ = some (.string d) := hcellK x d hd
          have hdm : d ∈ L := List.mem_of_getElem? hd
          have HCALL := HSH d (wr.drewN m) hdm
          have hql : shardN d i < i := by have := shardN_lt d i; rw [HK.out] at this; exact this
          have hmem : d ∈ spreadF L i (shardN d i) := spreadF_mem.2 ⟨hdm, rfl⟩
          obtain ⟨u, A2, c2, rfl, hu, hcells⟩ := HROW.out (shardN d i) hql
          have HCELL := Asd.mk hcells
          have HMEM := Asd.mk hmem
          have hrl : (spreadF L i (shardN d i)).length ≤ 1000000 := Nat.le_trans (spreadF_len L i _) HN.out
          have hx0 : (0 : Int) ≤ (x : Int) := Int.natCast_nonneg _
          have hxL : (x : Int) < (L.length : Int) := by omega
          clear hcells hmem hx hd hdm hcellK
          generalize shardN d i = q at *
          generalize hrw : spreadF L i q = row at *
          have hq0 : (0 : Int) ≤ (q : Int) := Int.natCast_nonneg _
          have hqk : (q : Int) < (i : Int) := by omega
          clear hrw
          go_wp2_with fail
          refine HCALL.out.mono ?_
          rintro e w2 ⟨rfl, rfl⟩
          go_wp2_with fail
          have HW0 : Asd (∃ m', wr.drewN m = wr.drewN m') := ⟨m, rfl⟩
          go_loopg [12, 13] row.length (fun kq v12 v13 w2 => ∃ (y : Nat) (fnd : Bool), v13 = .int .i64 (y : Int) ∧ v12 = .bool fnd ∧ Asd (Fnd fnd row d y) ∧ Asd (kq + y = row.length) ∧ Asd (∃ m, w2 = wr.drewN m))
          case atStart => exact ⟨0, false, rfl, rfl, ⟨fnd_zero⟩, ⟨by omega⟩, HW0⟩
          case round =>
            clear HW0
            obtain ⟨y, fnd, rfl, rfl, HF, HY, HW2⟩ := hrel
            have hy := HY.out
            obtain ⟨m2, rfl⟩ := HW2.out
            clear HW2
            cases gk with
            | zero =>
              obtain rfl : y = row.length := by omega
              have hlt4 : decide (row.length < row.length) = false := by simp
              obtain rfl : fnd = true := fnd_end HF.out HMEM.out
              clear hy
              go_wp2_with fail
              go_roundg k2
              case measure => omega
              case rel => exact ⟨x + 1, by go_num, ⟨by have := HX.out; omega⟩, ⟨_, rfl⟩⟩
            | succ k3 =>
              have hyl : y < row.length := by omega
              have hlt4 : decide (y < row.length) = true := decide_eq_true hyl
              obtain ⟨g2, o2, rfl, hc2⟩ := HCELL.out (by omega)
              obtain ⟨d2, hd2⟩ : ∃ d, row[y]? = some d := ⟨_, List.getElem?_eq_getElem hyl⟩
              have hkey2 := hc2 y d2 hd2
              have hy0 : (0 : Int) ≤ (y : Int) := Int.natCast_nonneg _
              have hyL : (y : Int) < (row.length : Int) := by omega
              have HD2 := Asd.mk hd2
              clear hd2 hc2 hy
              cases fnd with
              | true =>
                go_wp2_with fail
                go_quiet (fail)
                go_wp2
                go_roundg k3
                case measure => omega
                case rel => exact ⟨y + 1, true, by go_num, rfl, ⟨fnd_old HF.out⟩, ⟨by have := HY.out; omega⟩, ⟨_, rfl⟩⟩
              | false =>
                by_cases he : d2 = d
                · have heb2 : (d2.toList == d.toList) = true := by rw [he]; simp
                  have HEQ := Asd.mk he
                  clear he
                  go_wp2_with fail
                  go_quiet (fail)
                  go_wp2
                  go_roundg k3
                  case measure => omega
                  case rel => exact ⟨y + 1, true, by go_num, rfl, ⟨fnd_new HD2.out HEQ.out⟩, ⟨by have := HY.out; omega⟩, ⟨_, rfl⟩⟩
                · have heb2 : (d2.toList == d.toList) = false := by
                    rw [beq_eq_false_iff_ne]
                    intro e
                    exact he (ByteArray.ext (by simpa [ByteArray.toList_eq] using e))
                  have HNE := Asd.mk he
                  clear he
                  go_wp2_with fail
                  go_quiet (fail)
                  go_wp2
                  go_roundg k3
                  case measure => omega
                  case rel => exact ⟨y + 1, false, by go_num, rfl, ⟨fnd_no HF.out HD2.out HNE.out⟩, ⟨by have := HY.out; omega⟩, ⟨_, rfl⟩⟩
    | succ k1 =>
      have hlt : i < k := by omega
      have hlt2 : decide (i < k) = true := decide_eq_true hlt
      obtain ⟨u, A2, c2, rfl, hu, hcells⟩ := HROW.out i hlt
      have HCELL := Asd.mk hcells
      have hq1 : cnt L k i + (spreadF L k i).length ≤ 1000000 := by have h1 := cnt_succ L k i; have h2 := cnt_le L k (i + 1); have := HN.out; omega
      have HC := Asd.mk (cnt_succ L k i)
      have HM : ∀ d, Asd (d ∈ spreadF L k i → d ∈ L ∧ shardN d k = i) := fun d => ⟨fun h => spreadF_mem.1 h⟩
      have hi0 : (0 : Int) ≤ (i : Int) := Int.natCast_nonneg _
      have hik : (i : Int) < (k : Int) := by omega
      clear hcells hi
      generalize cnt L k i = q at *
      generalize hrw : spreadF L k i = row at *
      have HRW := Asd.mk hrw
      clear hrw
      go_wp2_with fail
      have hrl : row.length ≤ 1000000 := by omega
      go_loopg [9] row.length (fun kq v9 w2 => ∃ y : Nat, v9 = .int .i64 (y : Int) ∧ Asd (kq + y = row.length) ∧ Asd (w2 = wr))
      case atStart => exact ⟨0, rfl, ⟨by omega⟩, ⟨rfl⟩⟩
      case round =>
        obtain ⟨y, rfl, HY, HW⟩ := hrel
        have hy := HY.out
        obtain rfl := HW.out
        clear HW
        cases gk with
        | zero =>
          obtain rfl : y = row.length := by omega
          have hlt3 : decide (row.length < row.length) = false := by simp
          clear hy
          go_wp2_with fail
          go_roundg k1
          case measure => omega
          case rel => exact ⟨i + 1, by go_num, by rw [HC.out]; go_num, ⟨by have := HI.out; omega⟩, ⟨rfl⟩⟩
        | succ k2 =>
          have hyl : y < row.length := by omega
          have hlt3 : decide (y < row.length) = true := decide_eq_true hyl
          obtain ⟨g2, o2, rfl, hc2⟩ := HCELL.out (by omega)
          obtain ⟨d, hd⟩ : ∃ d, row[y]? = some d := ⟨_, List.getElem?_eq_getElem hyl⟩
          have hkey := hc2 y d hd
          obtain ⟨hdL, hdq⟩ := (HM d).out (List.mem_of_getElem? hd)
          have HCALL := HSH d wr hdL
          rw [hdq] at HCALL
          have hni : ((i : Int) != (i : Int)) = false := by simp
          have hy0 : (0 : Int) ≤ (y : Int) := Int.natCast_nonneg _
          have hyL : (y : Int) < (row.length : Int) := by omega
          clear hd hc2 hdL hdq hy
          go_wp2_with fail
          refine HCALL.out.mono ?_
          rintro e w2 ⟨rfl, rfl⟩
          go_wp2_with fail
          go_roundg k2
          case measure => omega
          case rel => exact ⟨y + 1, by go_num, ⟨by have := HY.out; omega⟩, ⟨rfl⟩⟩
end Go.Proofs.YtacimedkchjfnaaGreat
end

section
/-! HashAll behind its shards, beside leavers, to its end. -/
namespace Go.Proofs.YtacimedkchjfnaaGreat
set_option linter.unusedSimpArgs false
set_option linter.unusedVariables false
set_option maxRecDepth 20000
open Go.Conc Go.RowKit
open Go.ConcN (sumTo upd)
theorem t44 : restB Tryz.prog LK NK 4 ops44 [3] = true := by kernel_rfl
theorem t4c : codeB Tryz.prog LK NK 4 rest44 = true := by kernel_rfl
section
variable {w : World} {keys : Value} {L : List ByteArray} {nu n lg r r2 : Int} {k m Ob C g : Nat} {gs : Array Goroutine} {sl : Option (Nat × Nat)} {t : Trace} {q : Nat → Nat} {Shun : Loc → Prop}
set_option maxHeartbeats 4000000 in
theorem slots4 {S : Sc} {v : Value} (hk : KV S keys) (hv : Cl S v) (hd : S.d = dK) : SlotsOk S 4 0 (T4 keys nu k n lg r r2 v).toList := by
  have hk' : ∀ k, dK 4 k = true → KV S keys ∧ (S.d 4 k = false → Cl S keys) := fun k h => slot_k hk (by rw [hd]; exact h)
  have u : ∀ k, KV S undef ∧ (S.d 4 k = false → Cl S undef) := fun k => slot_cl cl_undef
  have i : ∀ (x : Int) (ki : IntKind) k, KV S (.int ki x) ∧ (S.d 4 k = false → Cl S (.int ki x)) := fun x ki k => slot_cl (.int _ _)
  have b : ∀ (x : Bool) k, KV S (.bool x) ∧ (S.d 4 k = false → Cl S (.bool x)) := fun x k => slot_cl (.bool _)
  exact ⟨hk' 0 (by decide), i _ _ _, u _, u _, b _ _, i _ _ _, u _, u _, u _, u _, u _, u _, u _, u _, hk' 14 (by decide), i _ _ _, b _ _, b _ _, hk' 18 (by decide), i _ _ _, b _ _, b _ _, u _, i _ _ _, i _ _ _, i _ _ _, i _ _ _, hk' 27 (by decide), i _ _ _, slot_cl hv,
    slots_undef 81 30⟩
set_option maxHeartbeats 4000000 in
theorem last4 (hkk : clipI k = k) (hm : m = clipI k) (hN : L.length ≤ 1000000) (hs : ∀ s ∈ L, s.size ≤ 140737488355328) (hK : StrAt w keys L) (hG : GlobOk w)
    (hC : ∃ cs, w.heap[C]? = some (.cells cs 3) ∧ cs.size = L.length ∧ ∀ (j : Nat) s, L[j]? = some s → cs[j]? = some (.int .i64 (shardN s k : Nat)))
    (hO : w.heap[Ob]? = some (.cells (List.replicate m (.slice none 0 0)).toArray 22)) (hg : 2 ≤ g ∧ g < w.heap.size ∧ g ≠ Ob ∧ g ≠ C) (hgK : ∀ a, KOf keys L a → a.block ≠ g) (hSh : ∀ l, Shun l → ∃ a : Addr, l = .cell a ∧ a.block = g)
    (h0 : gs[0]? = some (G ((base 9).at ⟨T9 keys k m Ob C L.length, []⟩ [.inRegion ops92 [3, 4], .code blk9, .code end9]) [(base 4).at ⟨T4 keys nu k n lg r r2 undef, []⟩ [.inRegion ops44 [2, 3], .code rest44]]))
    (hL : Leavers Tryz.prog t gs q) (hP : PastE Shun t) :
    ∃ N last o wF t', runNT Tryz.prog (N + 1) (crowd gs w sl) t = (.ended o wF, t') ∧ runN Tryz.prog N (crowd gs w sl) = .next last ∧ step Tryz.prog last = .ended o wF ∧
      Go.Conc.Good Tryz.prog (fun v W' => v = .bool true ∧ GW w W' (some Ob) ∧ W'.tape = w.tape) last o wF t' := by
  have X := prgC (B := B3 w Ob C) (K := KOf keys L) (.inl rfl) (.inr (.inl rfl))
  have hcw := cwk3 (nv := (k : Int)) hG hK hC hO
  have hsh : ∀ l, Shun l → ∃ a : Addr, l = .cell a ∧ ¬ B3 w Ob C a.block ∧ ¬ KOf keys L a := fun l hl => by
    obtain ⟨a, e1, e2⟩ := hSh l hl
    refine ⟨a, e1, ?_, fun hk => hgK a hk e2⟩
    rintro (h | h | h | h | h) <;> omega
  have bw1 := bw_weaken (fun _ _ _ h => dx_of hsh h) (fun _ _ h => h) (stretch9 hm hN hK hG hC hO X (items9 (.inl rfl)) hcw [(base 4).at ⟨T4 keys nu k n lg r r2 undef, []⟩ [.inRegion ops44 [2, 3], .code rest44]])
  have bw2 : BW Tryz.prog (DX Shun) (fun gg w2 => ∃ fr, gg = G fr [] ∧ LeaveT 4 4 fr (.bool true) ∧ GW w w2 (some Ob)) (G ((base 9).at ⟨T9 keys k m Ob C L.length, []⟩ [.inRegion ops92 [3, 4], .code blk9, .code end9]) [(base 4).at ⟨T4 keys nu k n lg r r2 undef, []⟩ [.inRegion ops44 [2, 3], .code rest44]]) w := by
    refine bw_bind bw1 ?_
    rintro gg w2 ⟨fr, rfl, hlv, hcw2, hgw, vs, hvs⟩
    refine bw_step (fun w => ⟨fun e he => by simp at he, rfl⟩) rfl (fun w => leaveT_step Tryz.func9 rfl hlv true _ _ w) (fun d => ?_)
    rw [fin9 (T4 keys nu k n lg r r2 undef) 29 _ rfl]
    have eT : (T4 keys nu k n lg r r2 undef).setIfInBounds 29 (.slice (some ⟨Ob, 0, none⟩) m m) = (T4 keys nu k n lg r r2 (.slice (some ⟨Ob, 0, none⟩) m m)).toList.toArray := rfl
    rw [eT]
    have hx : Inv (scOf (B3 w Ob C) (KOf keys L) false LK NK) Tryz.prog w2.tape ⟨(base 4).at ⟨(T4 keys nu k n lg r r2 (.slice (some ⟨Ob, 0, none⟩) m m)).toList.toArray, []⟩ [.inRegion ops44 [3], .code rest44], [], w2.at d⟩ :=
      ⟨frOk_base (fun x hx => by
        simp only [List.mem_cons, List.not_mem_nil, or_false] at hx
        rcases hx with rfl | rfl
        · exact item_region (.inl rfl) t44
        · exact item_code (.inl rfl) t4c) (slots4 (kv_of hK fun a h => h) (.slice _ _ _ (.inr (.inr (.inl rfl)))) rfl) ⟨_, Tryz.func4⟩, by simp, ⟨⟨hcw2.objs, hcw2.fresh⟩, hcw2.kc⟩, rfl⟩
    refine bw_weaken (D := DIn (scOf (B3 w Ob C) (KOf keys L) false LK NK)) (fun _ _ _ h => dx_of hsh h) (fun _ _ h => h) (lift (x := ⟨(base 4).at ⟨(T4 keys nu k n lg r r2 (.slice (some ⟨Ob, 0, none⟩) m m)).toList.toArray, []⟩ [.inRegion ops44 [3], .code rest44], [], w2.at d⟩) X (base := []) hx (Fin := fun fr wz => LeaveT 4 4 fr (.bool true) ∧ GW w2 wz none) ?_ ?_)
    · intro τ
      have hK2 : StrAt (re w2 τ 0) keys L := strAt_gw (w' := re w2 τ 0) hK ⟨hgw.os, hgw.output, hgw.size, hgw.block⟩ (kof_ne hK hO nilrow_ne)
      have hv2 : RowsR (re w2 τ 0) (.slice (some ⟨Ob, 0, none⟩) m m) (spreadRows L k) := rows_read (w' := re w2 τ 0) (vs := vs) (base := w.heap.size) ⟨hvs.len, hvs.out, hvs.own, hvs.apart⟩ hm
      obtain ⟨v, wz, fr, ⟨rfl, hb⟩, hst, hfn, hlv⟩ := rest4 (k := k) (nu := nu) (n := n) (lg := lg) (r := r) (r2 := r2) hkk hK2 hN hs hv2 (base 4) [c0] rfl rfl rfl
      obtain ⟨N, hN⟩ := hst
      exact ⟨N, fr, wz, hN, leaveT_of Tryz.func4 rfl hfn hlv, ⟨hb.os, hb.output, hb.size, fun k hk _ => hb.block k hk⟩⟩
    · rintro fr wz τ d2 hf _ ⟨h1, h2⟩ d'
      exact ⟨fr, rfl, h1, ⟨h2.os.trans hgw.os, h2.output.trans hgw.output, Nat.le_trans hgw.size h2.size, fun k hk hne => (h2.block k (Nat.lt_of_lt_of_le hk hgw.size) (by simp)).trans (hgw.block k hk hne)⟩⟩
  obtain ⟨M, gs', a', w1, sl', t', q', hr, hsz, h01, ⟨fr, rfl, hlv, hgw⟩, hL1, hP1, htape⟩ := bw_beside (fun w1 t => PastE Shun t ∧ w1.tape = w.tape) (fun w t d h => h) (fun w w' es fn pos t h hD => ⟨h.1.own hD.1, hD.2.trans h.2⟩) (fun w t i fn pos es hi h hm => ⟨h.1.mute hi hm, h.2⟩) bw2 gs w.drawn sl t q h0 hL ⟨hP, rfl⟩
  have hend := fun d => leaveT_end Tryz.func4 rfl (inits_none 4 (by kernel_rfl)) hlv (w1.at d)
  obtain ⟨N, last, o, wF, tF, e1, e2, e3, e4⟩ := end_beside (P := Tryz.prog) (Shun := Shun) (Post := fun v W' => v = .bool true ∧ GW w W' (some Ob) ∧ W'.tape = w.tape) rfl hend (fun d => ⟨rfl, hgw.at d, htape⟩) _ gs' w1.drawn sl' t' q' (Nat.le_refl _) h01 hL1 hP1
  refine ⟨M + N, last, o, wF, tF, ?_, ?_, e3, e4⟩
  · rw [Nat.add_assoc, runNT_add, show crowd gs w sl = crowd gs (w.at w.drawn) sl from rfl, hr]; exact e1
  · rw [runN_add, ← runNT_fst Tryz.prog _ _ t, show crowd gs w sl = crowd gs (w.at w.drawn) sl from rfl, hr]; exact e2
end
end Go.Proofs.YtacimedkchjfnaaGreat
end

section
/-! HashAll's begin, in company. -/
namespace Go.Proofs.YtacimedkchjfnaaGreat
set_option linter.unusedSimpArgs false
set_option linter.unusedVariables false
set_option maxRecDepth 100000
open Go.Conc Go.RowKit
section
variable {W : World} {keys : Value} {L : List ByteArray} {nu : Int} {A : Option Addr} {c : Nat}
set_option maxHeartbeats 8000000 in
theorem begin4_many (hA : keys = .slice A L.length c) (hn : 60 < L.length) (hG : GlobOk W) (hK : StrAt W keys L) :
    BW Tryz.prog (DX fun _ => False) (fun gg w2 => ∃ fr, gg = G fr [] ∧ LeaveT 4 4 fr (.bool true) ∧ GW W w2 none) (G ((base 4).at ⟨#[keys, .int .u8 nu, undef, undef, undef, undef, undef, undef, undef, undef, undef, undef, undef, undef, undef, undef, undef, undef, undef, undef, undef, undef, undef, undef, undef, undef, undef, undef, undef, undef, undef, undef, undef, undef, undef, undef, undef, undef, undef, undef, undef, undef, undef, undef, undef, undef, undef, undef, undef, undef, undef, undef, undef, undef, undef, undef, undef, undef, undef, undef, undef, undef, undef, undef, undef, undef, undef, undef, undef, undef, undef, undef, undef, undef, undef, undef, undef, undef, undef, undef, undef, undef, undef, undef, undef, undef, undef, undef, undef, undef, undef, undef, undef, undef, undef, undef, undef, undef, undef, undef, undef, undef, undef, undef, undef, undef, undef, undef, undef, undef, undef], []⟩ [.code body4]) []) W := by
  have T := tG
  have h1 : ((60 : Int) < (L.length : Int)) = True := by simp; omega
  have h2 : (60 < L.length) = True := by simp; omega
  subst hA
  simp only [body4, Tryz.f4, Option.getD_some]
  refine bw_gd (n := 100) (fun _ _ _ h => dx_of_dg h) ?_
  with_reducible refine gd_c T (G_running _ _) (fun _ => stepG_seq) ?_
  ((with_reducible refine gd_c T (G_running _ _) (fun _ => stepG_region) ?_); simp only [List.size_toArray, List.length_cons, List.length_nil, Nat.reduceAdd, Nat.zero_add, List.range, List.range.loop])
  (co_applyP gd_val T rfl rfl (by k_ne) ?_ ?_ ?_; (focus (intro _ K hK; go_simp; (try w_num); exact hK)); (focus (intro _; simp [go_sem, *]; done)); (try walk_nrm))
  with_reducible refine gd_c T (G_running _ _) (fun _ => stepG_region_end) ?_
  with_reducible refine gd_c T (G_running _ _) (fun _ => stepG_seq) ?_
  with_reducible refine gd_c T (G_running _ _) (fun _ => stepG_seq) ?_
  ((with_reducible refine gd_c T (G_running _ _) (fun _ => stepG_region) ?_); simp only [List.size_toArray, List.length_cons, List.length_nil, Nat.reduceAdd, Nat.zero_add, List.range, List.range.loop])
  (co_applyP gd_val T rfl rfl (by k_ne) ?_ ?_ ?_; (focus (intro _ K hK; go_simp; (try w_num); exact hK)); (focus (intro _; simp [go_sem, *]; done)); (try walk_nrm))
  (co_applyP gd_val T rfl rfl (by k_ne) ?_ ?_ ?_; (focus (intro _ K hK; go_simp; (try w_num); exact hK)); (focus (intro _; simp [go_sem, *]; done)); (try walk_nrm))
  (co_applyP gd_val T rfl rfl (by k_ne) ?_ ?_ ?_; (focus (intro _ K hK; go_simp; (try w_num); exact hK)); (focus (intro _; simp [go_sem, *]; done)); (try walk_nrm))
  (co_applyP gd_val T rfl rfl (by k_ne) ?_ ?_ ?_; (focus (intro _ K hK; go_simp; (try w_num); exact hK)); (focus (intro _; simp [go_sem, *]; done)); (try walk_nrm))
  (refine gd_c T rfl (fun _ => stepG_unwanted rfl rfl) ?_; (try walk_nrm))
  (refine gd_c T rfl (fun _ => stepG_unwanted rfl rfl) ?_; (try walk_nrm))
  (refine gd_c T rfl (fun _ => stepG_unwanted rfl rfl) ?_; (try walk_nrm))
  (co_applyP gd_val T rfl rfl (by k_ne) ?_ ?_ ?_; (focus (intro _ K hK; go_simp; (try w_num); exact hK)); (focus (intro _; simp [go_sem, *]; done)); (try walk_nrm))
  with_reducible refine gd_c T (G_running _ _) (fun _ => stepG_region_end) ?_
  (refine gd_c T rfl (fun _ => stepG_cond (t := true) rfl) ?_; simp only [if_true, if_false, Bool.false_eq_true, ↓reduceIte])
  with_reducible refine gd_c T (G_running _ _) (fun _ => stepG_seq) ?_
  ((with_reducible refine gd_c T (G_running _ _) (fun _ => stepG_region) ?_); simp only [List.size_toArray, List.length_cons, List.length_nil, Nat.reduceAdd, Nat.zero_add, List.range, List.range.loop])
  (refine gd_call T rfl rfl (by k_ne) rfl Tryz.func7 cn7 rfl ?_; walk_nrmf Tryz.f7)
  refine GD.stop fun w₁ h₁ => ?_
  obtain ⟨d1, rfl⟩ := h₁
  have hb := known_bw (B := B0w W.heap.size) (K := KOf (.slice A L.length c) L) (w := W.at d1) (.inl rfl) (.inr (.inl rfl)) (cwk0 (w := W.at d1) ⟨hG.two, hG.cl, hG.txt⟩ hK)
  simp only [Tryz.f7, Option.getD_some] at hb
  refine bw_bind (hb _) ?_
  rintro gg w2 ⟨fr, rfl, hlv, hgw⟩
  refine bw_step (fun w => ⟨fun e he => by simp at he, rfl⟩) rfl (fun w => leaveT_step Tryz.func7 rfl hlv true _ _ w) (fun d => ?_)
  rw [Frame.finish_at]
  walk_nrm
  refine bw_gd (n := 20) (fun _ _ _ h => dx_of_dg h) ?_
  (co_applyP gd_val T rfl rfl (by k_ne) ?_ ?_ ?_; (focus (intro _ K hK; go_simp; (try w_num); exact hK)); (focus (intro _; simp [go_sem, *]; done)); (try walk_nrm))
  with_reducible refine gd_c T (G_running _ _) (fun _ => stepG_region_end) ?_
  with_reducible refine gd_c T (G_running _ _) (fun _ => stepG_ret') ?_
  refine GD.stop fun w₁ h₁ => ?_
  obtain ⟨d1, rfl⟩ := h₁
  exact .stop fun d => ⟨_, rfl, ⟨rfl, rfl, rfl, rfl, rfl⟩, hgw.os, hgw.output, hgw.size, hgw.block⟩
set_option maxHeartbeats 8000000 in
theorem begin4_long (hA : keys = .slice A L.length c) (hn : ¬ 60 < L.length) (hl : 600 < IntKind.i64.wrap (longL L : Nat)) (hG : GlobOk W) (hK : StrAt W keys L) :
    BW Tryz.prog (DX fun _ => False) (fun gg w2 => ∃ fr, gg = G fr [] ∧ LeaveT 4 4 fr (.bool true) ∧ GW W w2 none) (G ((base 4).at ⟨#[keys, .int .u8 nu, undef, undef, undef, undef, undef, undef, undef, undef, undef, undef, undef, undef, undef, undef, undef, undef, undef, undef, undef, undef, undef, undef, undef, undef, undef, undef, undef, undef, undef, undef, undef, undef, undef, undef, undef, undef, undef, undef, undef, undef, undef, undef, undef, undef, undef, undef, undef, undef, undef, undef, undef, undef, undef, undef, undef, undef, undef, undef, undef, undef, undef, undef, undef, undef, undef, undef, undef, undef, undef, undef, undef, undef, undef, undef, undef, undef, undef, undef, undef, undef, undef, undef, undef, undef, undef, undef, undef, undef, undef, undef, undef, undef, undef, undef, undef, undef, undef, undef, undef, undef, undef, undef, undef, undef, undef, undef, undef, undef, undef], []⟩ [.code body4]) []) W := by
  have T := tG
  have h1 : ((60 : Int) < (L.length : Int)) = False := by simp; omega
  have h2 : (60 < L.length) = False := by simp; omega
  have h3 : ((600 : Int) < IntKind.i64.wrap (longL L : Nat)) = True := by simpa using hl
  generalize hlg : IntKind.i64.wrap (longL L : Nat) = lg at *
  subst hA
  simp only [body4, Tryz.f4, Option.getD_some]
  refine bw_gd (n := 100) (fun _ _ _ h => dx_of_dg h) ?_
  with_reducible refine gd_c T (G_running _ _) (fun _ => stepG_seq) ?_
  ((with_reducible refine gd_c T (G_running _ _) (fun _ => stepG_region) ?_); simp only [List.size_toArray, List.length_cons, List.length_nil, Nat.reduceAdd, Nat.zero_add, List.range, List.range.loop])
  (co_applyP gd_val T rfl rfl (by k_ne) ?_ ?_ ?_; (focus (intro _ K hK; go_simp; (try w_num); exact hK)); (focus (intro _; simp [go_sem, *]; done)); (try walk_nrm))
  with_reducible refine gd_c T (G_running _ _) (fun _ => stepG_region_end) ?_
  with_reducible refine gd_c T (G_running _ _) (fun _ => stepG_seq) ?_
  with_reducible refine gd_c T (G_running _ _) (fun _ => stepG_seq) ?_
  ((with_reducible refine gd_c T (G_running _ _) (fun _ => stepG_region) ?_); simp only [List.size_toArray, List.length_cons, List.length_nil, Nat.reduceAdd, Nat.zero_add, List.range, List.range.loop])
  (co_applyP gd_val T rfl rfl (by k_ne) ?_ ?_ ?_; (focus (intro _ K hK; go_simp; (try w_num); exact hK)); (focus (intro _; simp [go_sem, *]; done)); (try walk_nrm))
  (co_applyP gd_val T rfl rfl (by k_ne) ?_ ?_ ?_; (focus (intro _ K hK; go_simp; (try w_num); exact hK)); (focus (intro _; simp [go_sem, *]; done)); (try walk_nrm))
  (co_applyP gd_val T rfl rfl (by k_ne) ?_ ?_ ?_; (focus (intro _ K hK; go_simp; (try w_num); exact hK)); (focus (intro _; simp [go_sem, *]; done)); (try walk_nrm))
  (co_applyP gd_val T rfl rfl (by k_ne) ?_ ?_ ?_; (focus (intro _ K hK; go_simp; (try w_num); exact hK)); (focus (intro _; simp [go_sem, *]; done)); (try walk_nrm))
  (co_applyP gd_val T rfl rfl (by k_ne) ?_ ?_ ?_; (focus (intro _ K hK; go_simp; (try w_num); exact hK)); (focus (intro _; simp [go_sem, *]; done)); (try walk_nrm))
  (refine gd_call T rfl rfl (by k_ne) rfl Tryz.func6 cn6 rfl ?_; walk_nrmf Tryz.f6)
  refine GD.stop fun w₁ h₁ => ?_
  obtain ⟨d1, rfl⟩ := h₁
  have hb := fun base0 => long_bw (Shun := fun _ => False) (w := W.at d1) hK ⟨hG.two, hG.cl, hG.txt⟩ (fun l h => h.elim) base0
  rw [hlg] at hb
  simp only [Tryz.f6, Option.getD_some] at hb
  refine bw_bind (bw_weaken (fun _ _ _ h => dx_of_dl0 h.2.2) (fun _ _ h => h) (hb _)) ?_
  rintro gg w2 ⟨fr, d2, rfl, hlv, rfl⟩
  refine bw_step (fun w => ⟨fun e he => by simp at he, rfl⟩) rfl (fun w => leaveT_step Tryz.func6 rfl hlv true _ _ w) (fun d => ?_)
  rw [Frame.finish_at]
  walk_nrm
  refine bw_gd (n := 100) (fun _ _ _ h => dx_of_dg h) ?_
  (co_applyP gd_val T rfl rfl (by k_ne) ?_ ?_ ?_; (focus (intro _ K hK; go_simp; (try w_num); exact hK)); (focus (intro _; simp [go_sem, *]; done)); (try walk_nrm))
  (co_applyP gd_val T rfl rfl (by k_ne) ?_ ?_ ?_; (focus (intro _ K hK; go_simp; (try w_num); exact hK)); (focus (intro _; simp [go_sem, *]; done)); (try walk_nrm))
  with_reducible refine gd_c T (G_running _ _) (fun _ => stepG_region_end) ?_
  (refine gd_c T rfl (fun _ => stepG_cond (t := true) rfl) ?_; simp only [if_true, if_false, Bool.false_eq_true, ↓reduceIte])
  with_reducible refine gd_c T (G_running _ _) (fun _ => stepG_seq) ?_
  ((with_reducible refine gd_c T (G_running _ _) (fun _ => stepG_region) ?_); simp only [List.size_toArray, List.length_cons, List.length_nil, Nat.reduceAdd, Nat.zero_add, List.range, List.range.loop])
  (refine gd_call T rfl rfl (by k_ne) rfl Tryz.func7 cn7 rfl ?_; walk_nrmf Tryz.f7)
  refine GD.stop fun w₁ h₁ => ?_
  obtain ⟨d1, rfl⟩ := h₁
  have hb := known_bw (B := B0w W.heap.size) (K := KOf (.slice A L.length c) L) (w := W.at d1) (.inl rfl) (.inr (.inl rfl)) (cwk0 (w := W.at d1) ⟨hG.two, hG.cl, hG.txt⟩ hK)
  simp only [Tryz.f7, Option.getD_some] at hb
  refine bw_bind (hb _) ?_
  rintro gg w2 ⟨fr, rfl, hlv, hgw⟩
  refine bw_step (fun w => ⟨fun e he => by simp at he, rfl⟩) rfl (fun w => leaveT_step Tryz.func7 rfl hlv true _ _ w) (fun d => ?_)
  rw [Frame.finish_at]
  walk_nrm
  refine bw_gd (n := 20) (fun _ _ _ h => dx_of_dg h) ?_
  (co_applyP gd_val T rfl rfl (by k_ne) ?_ ?_ ?_; (focus (intro _ K hK; go_simp; (try w_num); exact hK)); (focus (intro _; simp [go_sem, *]; done)); (try walk_nrm))
  with_reducible refine gd_c T (G_running _ _) (fun _ => stepG_region_end) ?_
  with_reducible refine gd_c T (G_running _ _) (fun _ => stepG_ret') ?_
  refine GD.stop fun w₁ h₁ => ?_
  obtain ⟨d1, rfl⟩ := h₁
  exact .stop fun d => ⟨_, rfl, ⟨rfl, rfl, rfl, rfl, rfl⟩, hgw.os, hgw.output, hgw.size, hgw.block⟩
/-- What stands where shards begins. -/
def Go4 (W : World) (keys : Value) (nu k lg r r2 : Int) (n : Nat) (gg : Goroutine) (w2 : World) : Prop := PO W (clipI k) w2 ∧
  gg = G ((base 16).at ⟨#[keys, .int .i64 k, undef, undef, undef, undef, undef, undef, undef, undef, undef, undef, undef, undef, undef, undef, undef, undef, undef, undef, undef, undef, undef, undef, undef, undef, undef, undef, undef, undef, undef, undef, undef, undef, undef, undef], []⟩ [.code (Tryz.f16.body.getD .skip)]) [(base 9).at ⟨T9b keys k (clipI k) W.heap.size, []⟩ [.inRegion ops92 [2, 3, 4], .code blk9, .code end9], (base 4).at ⟨T4 keys nu k n lg r r2 undef, []⟩ [.inRegion ops44 [2, 3], .code rest44]]
set_option maxHeartbeats 8000000 in
theorem begin4_go {Shun : Loc → Prop} (hA : keys = .slice A L.length c) (hn : ¬ 60 < L.length) (hl : ¬ 600 < IntKind.i64.wrap (longL L : Nat)) (hG : GlobOk W) (hK : StrAt W keys L) (hu0 : 0 ≤ nu) (hu1 : nu < 256)
    (hSh : ∀ l, Shun l → ∃ a : Addr, l = .cell a ∧ ¬ B0w W.heap.size a.block ∧ ¬ KOf keys L a) :
    BW Tryz.prog (DL Shun) (Go4 W keys nu (1 + nu % 64) (IntKind.i64.wrap (longL L : Nat)) (nu % 64) nu L.length) (G ((base 4).at ⟨#[keys, .int .u8 nu, undef, undef, undef, undef, undef, undef, undef, undef, undef, undef, undef, undef, undef, undef, undef, undef, undef, undef, undef, undef, undef, undef, undef, undef, undef, undef, undef, undef, undef, undef, undef, undef, undef, undef, undef, undef, undef, undef, undef, undef, undef, undef, undef, undef, undef, undef, undef, undef, undef, undef, undef, undef, undef, undef, undef, undef, undef, undef, undef, undef, undef, undef, undef, undef, undef, undef, undef, undef, undef, undef, undef, undef, undef, undef, undef, undef, undef, undef, undef, undef, undef, undef, undef, undef, undef, undef, undef, undef, undef, undef, undef, undef, undef, undef, undef, undef, undef, undef, undef, undef, undef, undef, undef, undef, undef, undef, undef, undef, undef], []⟩ [.code body4]) []) W := by
  have T := tG
  have h9 := fun (d : Nat) (lg : Int) => begin9 (D := DG) (W := W.at d) (nv := 1 + nu % 64) (keys := keys) (cs₀ := [(base 4).at ⟨T4 keys nu (1 + nu % 64) L.length lg (nu % 64) nu undef, []⟩ [.inRegion ops44 [2, 3], .code rest44]]) (n := 0) (Stop := fun _ g w => BW Tryz.prog (DL Shun) (Go4 W keys nu (1 + nu % 64) lg (nu % 64) nu L.length) g w) tG (fun w o => ⟨rfl, by rw [size_alloc]; omega, rfl⟩)
    (fun w hp => GD.stop fun w₁ h₁ => by
      obtain ⟨d2, rfl⟩ := h₁
      exact .stop fun d3 => ⟨⟨below_at (Below.trans (below_at (Below.refl _ W) d) hp.bl) _, hp.size, hp.o⟩, rfl⟩)
  have hw1 : IntKind.i64.wrap nu = nu := by rw [IntKind.wrap_i64]; omega
  have hw2 : nu.tmod 64 = nu % 64 := Int.tmod_eq_emod_of_nonneg hu0
  have hw3 : IntKind.i64.wrap (nu % 64) = nu % 64 := by rw [IntKind.wrap_i64]; omega
  have hw4 : IntKind.i64.wrap (1 + nu % 64) = 1 + nu % 64 := by rw [IntKind.wrap_i64]; omega
  have h1 : ((60 : Int) < (L.length : Int)) = False := by simp; omega
  have h2 : (60 < L.length) = False := by simp; omega
  have h3 : ((600 : Int) < IntKind.i64.wrap (longL L : Nat)) = False := by simpa using hl
  generalize hlg : IntKind.i64.wrap (longL L : Nat) = lg at *
  subst hA
  simp only [ops44, body4, Tryz.f4, Option.getD_some, T4, rest44] at h9 ⊢
  refine bw_gd (n := 100) (fun _ _ _ h => dl_of_dg h) ?_
  with_reducible refine gd_c T (G_running _ _) (fun _ => stepG_seq) ?_
  ((with_reducible refine gd_c T (G_running _ _) (fun _ => stepG_region) ?_); simp only [List.size_toArray, List.length_cons, List.length_nil, Nat.reduceAdd, Nat.zero_add, List.range, List.range.loop])
  (co_applyP gd_val T rfl rfl (by k_ne) ?_ ?_ ?_; (focus (intro _ K hK; go_simp; (try w_num); exact hK)); (focus (intro _; simp [go_sem, *]; done)); (try walk_nrm))
  with_reducible refine gd_c T (G_running _ _) (fun _ => stepG_region_end) ?_
  with_reducible refine gd_c T (G_running _ _) (fun _ => stepG_seq) ?_
  with_reducible refine gd_c T (G_running _ _) (fun _ => stepG_seq) ?_
  ((with_reducible refine gd_c T (G_running _ _) (fun _ => stepG_region) ?_); simp only [List.size_toArray, List.length_cons, List.length_nil, Nat.reduceAdd, Nat.zero_add, List.range, List.range.loop])
  (co_applyP gd_val T rfl rfl (by k_ne) ?_ ?_ ?_; (focus (intro _ K hK; go_simp; (try w_num); exact hK)); (focus (intro _; simp [go_sem, *]; done)); (try walk_nrm))
  (co_applyP gd_val T rfl rfl (by k_ne) ?_ ?_ ?_; (focus (intro _ K hK; go_simp; (try w_num); exact hK)); (focus (intro _; simp [go_sem, *]; done)); (try walk_nrm))
  (co_applyP gd_val T rfl rfl (by k_ne) ?_ ?_ ?_; (focus (intro _ K hK; go_simp; (try w_num); exact hK)); (focus (intro _; simp [go_sem, *]; done)); (try walk_nrm))
  (co_applyP gd_val T rfl rfl (by k_ne) ?_ ?_ ?_; (focus (intro _ K hK; go_simp; (try w_num); exact hK)); (focus (intro _; simp [go_sem, *]; done)); (try walk_nrm))
  (co_applyP gd_val T rfl rfl (by k_ne) ?_ ?_ ?_; (focus (intro _ K hK; go_simp; (try w_num); exact hK)); (focus (intro _; simp [go_sem, *]; done)); (try walk_nrm))
  (refine gd_call T rfl rfl (by k_ne) rfl Tryz.func6 cn6 rfl ?_; walk_nrmf Tryz.f6)
  refine GD.stop fun w₁ h₁ => ?_
  obtain ⟨d1, rfl⟩ := h₁
  have hb := fun base0 => long_bw (Shun := Shun) (w := W.at d1) hK ⟨hG.two, hG.cl, hG.txt⟩ hSh base0
  rw [hlg] at hb
  simp only [Tryz.f6, Option.getD_some] at hb
  refine bw_bind (bw_weaken (fun _ _ _ h => h) (fun _ _ h => h) (hb _)) ?_
  rintro gg w2 ⟨fr, d2, rfl, hlv, rfl⟩
  refine bw_step (fun w => ⟨fun e he => by simp at he, Nat.le_refl _, rfl⟩) rfl (fun w => leaveT_step Tryz.func6 rfl hlv true _ _ w) (fun d => ?_)
  rw [Frame.finish_at]
  walk_nrm
  refine bw_gd (n := 120) (fun _ _ _ h => dl_of_dg h) ?_
  (co_applyP gd_val T rfl rfl (by k_ne) ?_ ?_ ?_; (focus (intro _ K hK; go_simp; (try w_num); exact hK)); (focus (intro _; simp [go_sem, *]; done)); (try walk_nrm))
  (co_applyP gd_val T rfl rfl (by k_ne) ?_ ?_ ?_; (focus (intro _ K hK; go_simp; (try w_num); exact hK)); (focus (intro _; simp [go_sem, *]; done)); (try walk_nrm))
  with_reducible refine gd_c T (G_running _ _) (fun _ => stepG_region_end) ?_
  (refine gd_c T rfl (fun _ => stepG_cond (t := false) rfl) ?_; simp only [if_true, if_false, Bool.false_eq_true, ↓reduceIte])
  with_reducible refine gd_c T (G_running _ _) (fun _ => stepG_skip) ?_
  with_reducible refine gd_c T (G_running _ _) (fun _ => stepG_seq) ?_
  ((with_reducible refine gd_c T (G_running _ _) (fun _ => stepG_region) ?_); simp only [List.size_toArray, List.length_cons, List.length_nil, Nat.reduceAdd, Nat.zero_add, List.range, List.range.loop])
  (co_applyP gd_val T rfl rfl (by k_ne) ?_ ?_ ?_; (focus (intro _ K hK; go_simp; (try w_num); exact hK)); (focus (intro _; simp [go_sem, *]; done)); (try walk_nrm))
  (co_applyP gd_val T rfl rfl (by k_ne) ?_ ?_ ?_; (focus (intro _ K hK; go_simp; (try w_num); exact hK)); (focus (intro _; simp [go_sem, *]; done)); (try walk_nrm))
  (co_applyP gd_val T rfl rfl (by k_ne) ?_ ?_ ?_; (focus (intro _ K hK; go_simp; (try w_num); exact hK)); (focus (intro _; simp [go_sem, *]; done)); (try walk_nrm))
  (co_applyP gd_val T rfl rfl (by k_ne) ?_ ?_ ?_; (focus (intro _ K hK; go_simp; (try w_num); exact hK)); (focus (intro _; simp [go_sem, *]; done)); (try walk_nrm))
  (co_applyP gd_val T rfl rfl (by k_ne) ?_ ?_ ?_; (focus (intro _ K hK; go_simp; (try w_num); exact hK)); (focus (intro _; simp [go_sem, *]; done)); (try walk_nrm))
  with_reducible refine gd_c T (G_running _ _) (fun _ => stepG_region_end) ?_
  with_reducible refine gd_c T (G_running _ _) (fun _ => stepG_seq) ?_
  ((with_reducible refine gd_c T (G_running _ _) (fun _ => stepG_region) ?_); simp only [List.size_toArray, List.length_cons, List.length_nil, Nat.reduceAdd, Nat.zero_add, List.range, List.range.loop])
  (co_applyP gd_val T rfl rfl (by k_ne) ?_ ?_ ?_; (focus (intro _ K hK; go_simp; (try w_num); exact hK)); (focus (intro _; simp [go_sem, *]; done)); (try walk_nrm))
  (co_applyP gd_val T rfl rfl (by k_ne) ?_ ?_ ?_; (focus (intro _ K hK; go_simp; (try w_num); exact hK)); (focus (intro _; simp [go_sem, *]; done)); (try walk_nrm))
  (refine gd_call T rfl rfl (by k_ne) rfl Tryz.func9 cn9 rfl ?_; walk_nrmf Tryz.f9)
  simp only [Tryz.f9, Option.getD_some] at h9
  exact (h9 d lg).mono (by omega)
end
end Go.Proofs.YtacimedkchjfnaaGreat
end
