import Derived.Test.YtapclgjelekijaaB0
import Derived.RangeFuncNested
import Derived.Shelf.RegionOpen
import Derived.RangeFuncCalls
/-! The table's keys, in order. -/
namespace Go.Proofs.Ytapclgjelekijaa
open Go.RowKit Go.Shelf

attribute [local go_sem] Oper.semAt_some

theorem info9 : (Try.prog.info? 9).map (fun i => (i.zero, i.size, i.bytes)) = some (some (.string ⟨#[]⟩), 1, 16) := by kernel_rfl
def keysOf (R : Ring) (l : List { k : Nat // k < R.slots.length }) : List Value := l.map fun x => .string (R.key x.1)

/-- append onto a []string, as one word that the walk does not open. -/
def app32 (args : Array Value) : Sem Value := Builtin.append_ #[32, 32] 32 args
theorem builtin_app32 (cs : Array Bool) (args : Array Value) : builtin .append #[32, 32] 32 cs args = (do pure (.value (← app32 args))) := rfl
attribute [local go_sem ↓ 10000] builtin_app32

set_option maxRecDepth 100000 in
set_option maxHeartbeats 8000000 in
theorem keys_in (F : Fence) (n : Nat) (h14 : F.fn 14) (h29 : F.fn 29) (h38 : F.fn 38) (hro : F.round = none) (hn : 3 ≤ n) (w : World) (lo b : Nat) (R : Ring) (sv fv wv : Value) (o : List Nat) (P : Rep R o) (H : RingAt w lo b R sv fv wv) :
    CallsIn F n Try.prog 14 #[.pointer (some ⟨b, 0, none⟩)] w fun e W' => ∃ v, e = .returned v ∧ W'.ownsRow w.heap.size 9 1 v o.length (o.map fun k => Value.string (R.key k)) ∧ Below w.heap.size w W' := by
  have h1 : 1 ≤ n := by omega
  obtain ⟨i0, hi, hz0, hz1, hz2⟩ := info_parts info9
  have hf : ∀ k, Foot b sv fv wv k → k < w.heap.size := fun k hk => (H.foot_lt k hk).2
  refine callsIn_of_wp_marks Try.func14 rfl h14 ?_ hro
  simp only [Try.ntmps14, List.size_toArray, List.length_cons, List.length_nil, Nat.reduceAdd, Nat.reduceSub, Array.replicate_succ, Array.replicate_zero, List.push_toArray, List.append_toArray, List.nil_append, List.cons_append]
  gi_wp2_with (gi_at_call 29; refine (all_in F (n - 1) h29 hro _ _).mono ?_; rintro e w' ⟨rfl, rfl⟩)
  have bT := Boxed.new w 25 (.pointer (some ⟨b, 0, none⟩))
  have bO := Boxed.new (w.alloc (.cells #[.pointer (some ⟨b, 0, none⟩)] 25)) 32 (.slice none 0 0)
  rw [World.size_alloc] at bO
  have bN := Boxed.new ((w.alloc (.cells #[.pointer (some ⟨b, 0, none⟩)] 25)).alloc (.cells #[.slice none 0 0] 32)) 78 (.pointer (some ⟨b, 0, none⟩))
  rw [World.size_alloc, World.size_alloc] at bN
  have hB0 : Below w.heap.size w (((w.alloc (.cells #[.pointer (some ⟨b, 0, none⟩)] 25)).alloc (.cells #[.slice none 0 0] 32)).alloc (.cells #[.pointer (some ⟨b, 0, none⟩)] 78)) := (((Below.refl _ w).alloc (Nat.le_refl _) _).alloc (by simp) _).alloc (by simp; omega) _
  refine wpIn_rangeFunc_ownG hro h1 (gf := 38) (lb := #[.pointer (some ⟨w.heap.size + 1 + 1, 0, none⟩)]) rfl h38 (enters_of Try.func38 (by kernel_rfl) rfl)
    (all_stops F (n - 1) h38 hro (by omega) (w.heap.size + 1 + 1) w.heap.size lo b R sv fv wv o P hf _ (by simp) bN.cell (H.below hB0)) KpB.trans (KpB.put (by simp; omega) (by simp)) (Below.refl _ _) (fun _ => rfl)
    (fun pre W => ((∃ v, Boxed W (w.heap.size + 1) 32 v ∧ W.ownsRow w.heap.size 9 1 v pre.length (keysOf R pre) ∧ True) ∧ Boxed W w.heap.size 25 (.pointer (some ⟨b, 0, none⟩)) ∧ Boxed W (w.heap.size + 1 + 1) 78 (.pointer (some ⟨b, 0, none⟩))) ∧ Below w.heap.size w W)
    (fun _ _ _ => False)
    (OwnFrom.and (OwnFrom.and (Own.from (holdsRow_own w.heap.size (w.heap.size + 1) 32 9 1 (fun pre => pre.length) (fun pre => keysOf R pre) (fun _ _ => True)) _) (OwnFrom.and (Own.from (boxed_own _ _ _) _) (Own.from (boxed_own _ _ _) _))) (ownFrom_below (Nat.le_refl _) (by simp; omega)))
    (fun _ _ _ _ _ hs _ _ => hs)
    ⟨⟨⟨_, bO.alloc _, World.ownsRow_nil _ _ _ _, trivial⟩, (bT.alloc _).alloc _, bN⟩, hB0⟩
    (fun x => { tmps := #[.pointer (some ⟨b, 0, none⟩), .pointer (some ⟨w.heap.size, 0, none⟩), .slice none 0 0, .pointer (some ⟨w.heap.size + 1, 0, none⟩), .int .i64 ((x.1 : Nat) : Int), .pointer (some ⟨b, 0, none⟩), .bool false, .pointer (some ⟨b, 0, none⟩), .pointer (some ⟨b, 0, none⟩), .pointer (some ⟨b, 0, none⟩), .func (.func 38) #[] #[.pointer (some ⟨w.heap.size + 1 + 1, 0, none⟩)], .int .i64 ((x.1 : Nat) : Int), undef, undef, undef, undef, undef, undef, undef, undef, undef, undef, undef, undef, undef], defers := [] }) ?assign ?body ?done ?stop
  case assign =>
    intro l x W K hK
    gi_wp2
    exact hK
  case body =>
    rintro l pre x W ⟨⟨⟨v, hv, hrow, -⟩, hT, hN⟩, hB⟩ hlt
    have hc := hv.cell
    have hcT := hT.cell
    have Hr := H.belowN hf hB
    have hsl := P.slots_le
    obtain ⟨k, hkl⟩ := x
    dsimp only
    obtain ⟨g, c, rfl⟩ := Hr.form (by omega)
    have c1 : W.cell? ⟨b, 1, none⟩ = some (.slice (some ⟨g, 0, none⟩) R.slots.length c) := Hr.cell 1
    obtain ⟨s0, hs0⟩ : ∃ s, R.slots[k]? = some s := ⟨_, List.getElem?_eq_getElem hkl⟩
    have hkey : R.key k = s0.key := by unfold Ring.key; rw [hs0]; rfl
    obtain ⟨d0, _, _, _⟩ := Hr.slot hs0
    rw [← hkey] at d0
    clear hs0 hkey
    have hmx : Try.prog.follows .mixedOrders = true := by kernel_rfl
    have hbo := P.cnt
    obtain ⟨v', w1, hrun, hown, hgrow, _, hat⟩ := run_append_own_at (P := Try.prog) (w := W.drew.alloc (.cells #[.string (R.key k)] 9)) w.heap.size 32 32 9 i0 (.string ⟨#[]⟩) 1 16 Try.underlying32 hi hz0 hz1 hz2 rfl (by decide) v pre.length (keysOf R pre) ((World.ownsRow.drew hrow).alloc _) ⟨W.heap.size, 0, none⟩ 1 1 [.string (R.key k)] rfl (cell_one_new W.drew _ _) (by simp [Value.oneCell']) (by simp only [maxLen]; omega) (by omega) (by have := hB.size; simp; omega)
    obtain ⟨g', cap', rfl⟩ := ownsRow_succ hown
    obtain ⟨hv1, hv2, hr2, hk2, hb2⟩ := Boxed.appended (W := W.drew) hv (by decide) (World.ownsRow.drew hrow) hB.size (by omega) hown hgrow
    replace hrun : Sem.run Try.prog (app32 #[v, .slice (some ⟨W.heap.size, 0, none⟩) 1 1]) (W.alloc (.cells #[.string (R.key k)] 9)).drew = .ok (.slice (some ⟨g', 0, none⟩) (pre.length + 1) cap') w1 := hrun
    have hl1 := hv.lt
    have hl2 := hT.lt
    have hl3 := (Hr.foot_lt b (.inl rfl)).2
    have hl4 := (Hr.foot_lt g (.inr (.inl rfl))).2
    have hc1 := hv1.cell
    have hf1 := hv1.frozen
    have HAT := Asd.mk hat
    clear hat
    have fin : KeepsOthers W (w1.setCell ⟨w.heap.size + 1, 0, none⟩ (.slice (some ⟨g', 0, none⟩) (pre.length + 1) cap')) ∧ KpB w.heap.size (w.heap.size + 1 + 1) W (w1.setCell ⟨w.heap.size + 1, 0, none⟩ (.slice (some ⟨g', 0, none⟩) (pre.length + 1) cap')) ∧
        ((∃ v, Boxed (w1.setCell ⟨w.heap.size + 1, 0, none⟩ (.slice (some ⟨g', 0, none⟩) (pre.length + 1) cap')) (w.heap.size + 1) 32 v ∧ (w1.setCell ⟨w.heap.size + 1, 0, none⟩ (.slice (some ⟨g', 0, none⟩) (pre.length + 1) cap')).ownsRow w.heap.size 9 1 v (pre ++ ([⟨k, hkl⟩] : List { k : Nat // k < R.slots.length })).length (keysOf R (pre ++ ([⟨k, hkl⟩] : List { k : Nat // k < R.slots.length }))) ∧ True) ∧
          Boxed (w1.setCell ⟨w.heap.size + 1, 0, none⟩ (.slice (some ⟨g', 0, none⟩) (pre.length + 1) cap')) w.heap.size 25 (.pointer (some ⟨b, 0, none⟩)) ∧ Boxed (w1.setCell ⟨w.heap.size + 1, 0, none⟩ (.slice (some ⟨g', 0, none⟩) (pre.length + 1) cap')) (w.heap.size + 1 + 1) 78 (.pointer (some ⟨b, 0, none⟩))) ∧ Below w.heap.size w (w1.setCell ⟨w.heap.size + 1, 0, none⟩ (.slice (some ⟨g', 0, none⟩) (pre.length + 1) cap')) := by
      have t1 := ((Boxed.alloc (W := W.drew) hT (.cells #[.string (R.key k)] 9)).kept hgrow (hT.not_row (by decide) hrow)).other (B' := w.heap.size + 1) (by omega) (.slice (some ⟨g', 0, none⟩) (pre.length + 1) cap')
      have t2 := ((Boxed.alloc (W := W.drew) hN (.cells #[.string (R.key k)] 9)).kept hgrow (hN.not_row (by decide) hrow)).other (B' := w.heap.size + 1) (by omega) (.slice (some ⟨g', 0, none⟩) (pre.length + 1) cap')
      have hb3 := (Below.refl w.heap.size W).drew.trans hb2
      exact ⟨(KeepsOthers.drew W).trans hk2, ⟨hb3, t2.trans hN.symm⟩, ⟨⟨_, hv2, by rw [List.length_append]; unfold keysOf at hr2 ⊢; rw [List.map_append]; exact hr2, trivial⟩, t1, t2⟩, hB.trans hb3⟩
    have FIN := Asd.mk fin
    clear fin hv1 hv2 hr2 hk2 hb2 hown hgrow HAT hN hT hv hrow hbo
    gi_wp2
    gi_region_with_o (fail)
    all_goals exact ⟨FIN.out.1.from _, FIN.out.2.1, FIN.out.2.2⟩
  case done =>
    rintro D ys W hD hys ⟨⟨⟨v, hv, hrow, -⟩, hT, hN⟩, hB⟩ hK
    have hc := hv.cell
    gi_wp2
    refine ⟨by simp, .inl ⟨_, _, rfl, run_takeDeferred hK, ?_⟩⟩
    have hrow2 : W.ownsRow w.heap.size 9 1 v o.length (o.map fun k => Value.string (R.key k)) := by
      have h := hrow
      unfold keysOf at h
      rw [← hys, List.map_map, List.length_map]
      exact h
    exact ⟨_, results_tmp rfl _ _ _, v, rfl, ownsRow_putObj hrow2 _ hK rfl, hB.trans (belowK_b (w := w) (Nat.le_refl _) W D _ _ (by simp at hD; omega) hK rfl rfl)⟩
  case stop =>
    rintro D c pre W _ _ h _
    exact h.elim

theorem keys_calls (w : World) (lo b room : Nat) (L : List (ByteArray × Int)) (F : Nat → Prop) (H : TabAt w lo b room L F) :
    Calls Try.prog 14 #[.pointer (some ⟨b, 0, none⟩)] w fun e w' => ∃ v, e = .returned v ∧ w'.ownsRow w.heap.size 9 1 v L.length (L.map fun p => Value.string p.1) ∧ Below w.heap.size w w' := by
  obtain ⟨R, o, sv, fv, wv, H, P, rfl, rfl, hF⟩ := H
  have := (callsIn_wide (n := 3)).1 (keys_in Fence.wide 3 trivial trivial trivial rfl (by omega) w lo b R sv fv wv o P H)
  refine this.mono ?_
  rintro e w' ⟨v, h1, h2, h3⟩
  refine ⟨v, h1, ?_, h3⟩
  rw [Lst_length]
  unfold Lst
  rw [List.map_map]
  exact h2
end Go.Proofs.Ytapclgjelekijaa
