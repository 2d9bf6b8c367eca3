/- Part 22 of the proof: E11, D7, D8, E12, D9. -/
import Derived.Test.YtacimedkchjfnaaGreatV21
import Derived.Conc.AppendWalk
section
/-! HashAll's run. -/
namespace Go.Proofs.YtacimedkchjfnaaGreat
set_option linter.unusedSimpArgs false
set_option linter.unusedVariables false
set_option maxRecDepth 20000
open Go.Conc Go.RowKit
open Go.ConcN (sumTo upd)
set_option maxHeartbeats 4000000 in
theorem the_run4 {W : World} {keys : Value} {L : List ByteArray} {nu : Int} (hG : GlobOk W) (hK : StrAt W keys L) (hs : ∀ s ∈ L, s.size ≤ 140737488355328) (hu0 : 0 ≤ nu) (hu1 : nu < 256) :
    ∃ N last o wF t', runNT Tryz.prog (N + 1) (solo (G (Frame.enter Tryz.prog 4 #[keys, .int .u8 nu] .normal) []) W) #[] = (.ended o wF, t') ∧ runN Tryz.prog N (solo (G (Frame.enter Tryz.prog 4 #[keys, .int .u8 nu] .normal) []) W) = .next last ∧
      step Tryz.prog last = .ended o wF ∧ Go.Conc.Good Tryz.prog (fun v W' => v = .bool true ∧ Below W.heap.size W W') last o wF t' := by
  have e : Frame.enter Tryz.prog 4 #[keys, .int .u8 nu] .normal = (base 4).at ⟨#[keys, .int .u8 nu, undef, undef, undef, undef, undef, undef, undef, undef, undef, undef, undef, undef, undef, undef, undef, undef, undef, undef, undef, undef, undef, undef, undef, undef, undef, undef, undef, undef, undef, undef, undef, undef, undef, undef, undef, undef, undef, undef, undef, undef, undef, undef, undef, undef, undef, undef, undef, undef, undef, undef, undef, undef, undef, undef, undef, undef, undef, undef, undef, undef, undef, undef, undef, undef, undef, undef, undef, undef, undef, undef, undef, undef, undef, undef, undef, undef, undef, undef, undef, undef, undef, undef, undef, undef, undef, undef, undef, undef, undef, undef, undef, undef, undef, undef, undef, undef, undef, undef, undef, undef, undef, undef, undef, undef, undef, undef, undef, undef, undef], []⟩ [.code body4] := by
    simp [Frame.enter, Frame.at, Tryz.func4, base, body4, Tryz.f4]
  rw [e, solo_eq_crowd]
  clear e
  have hlv := leavers_one Tryz.prog (G ((base 4).at ⟨#[keys, .int .u8 nu, undef, undef, undef, undef, undef, undef, undef, undef, undef, undef, undef, undef, undef, undef, undef, undef, undef, undef, undef, undef, undef, undef, undef, undef, undef, undef, undef, undef, undef, undef, undef, undef, undef, undef, undef, undef, undef, undef, undef, undef, undef, undef, undef, undef, undef, undef, undef, undef, undef, undef, undef, undef, undef, undef, undef, undef, undef, undef, undef, undef, undef, undef, undef, undef, undef, undef, undef, undef, undef, undef, undef, undef, undef, undef, undef, undef, undef, undef, undef, undef, undef, undef, undef, undef, undef, undef, undef, undef, undef, undef, undef, undef, undef, undef, undef, undef, undef, undef, undef, undef, undef, undef, undef, undef, undef, undef, undef, undef, undef], []⟩ [.code body4]) [])
  have hA : ∃ A c, keys = .slice A L.length c := by obtain ⟨A, c, h, _⟩ := hK; exact ⟨A, c, h⟩
  obtain ⟨A, c, hA⟩ := hA
  have known : BW Tryz.prog (DX fun _ => False) (fun gg w2 => ∃ fr, gg = G fr [] ∧ LeaveT 4 4 fr (.bool true) ∧ GW W w2 none) (G ((base 4).at ⟨#[keys, .int .u8 nu, undef, undef, undef, undef, undef, undef, undef, undef, undef, undef, undef, undef, undef, undef, undef, undef, undef, undef, undef, undef, undef, undef, undef, undef, undef, undef, undef, undef, undef, undef, undef, undef, undef, undef, undef, undef, undef, undef, undef, undef, undef, undef, undef, undef, undef, undef, undef, undef, undef, undef, undef, undef, undef, undef, undef, undef, undef, undef, undef, undef, undef, undef, undef, undef, undef, undef, undef, undef, undef, undef, undef, undef, undef, undef, undef, undef, undef, undef, undef, undef, undef, undef, undef, undef, undef, undef, undef, undef, undef, undef, undef, undef, undef, undef, undef, undef, undef, undef, undef, undef, undef, undef, undef, undef, undef, undef, undef, undef, undef], []⟩ [.code body4]) []) W →
      ∃ N last o wF t', runNT Tryz.prog (N + 1) (crowd #[G ((base 4).at ⟨#[keys, .int .u8 nu, undef, undef, undef, undef, undef, undef, undef, undef, undef, undef, undef, undef, undef, undef, undef, undef, undef, undef, undef, undef, undef, undef, undef, undef, undef, undef, undef, undef, undef, undef, undef, undef, undef, undef, undef, undef, undef, undef, undef, undef, undef, undef, undef, undef, undef, undef, undef, undef, undef, undef, undef, undef, undef, undef, undef, undef, undef, undef, undef, undef, undef, undef, undef, undef, undef, undef, undef, undef, undef, undef, undef, undef, undef, undef, undef, undef, undef, undef, undef, undef, undef, undef, undef, undef, undef, undef, undef, undef, undef, undef, undef, undef, undef, undef, undef, undef, undef, undef, undef, undef, undef, undef, undef, undef, undef, undef, undef, undef, undef], []⟩ [.code body4]) []] W none) #[] = (.ended o wF, t') ∧ runN Tryz.prog N (crowd #[G ((base 4).at ⟨#[keys, .int .u8 nu, undef, undef, undef, undef, undef, undef, undef, undef, undef, undef, undef, undef, undef, undef, undef, undef, undef, undef, undef, undef, undef, undef, undef, undef, undef, undef, undef, undef, undef, undef, undef, undef, undef, undef, undef, undef, undef, undef, undef, undef, undef, undef, undef, undef, undef, undef, undef, undef, undef, undef, undef, undef, undef, undef, undef, undef, undef, undef, undef, undef, undef, undef, undef, undef, undef, undef, undef, undef, undef, undef, undef, undef, undef, undef, undef, undef, undef, undef, undef, undef, undef, undef, undef, undef, undef, undef, undef, undef, undef, undef, undef, undef, undef, undef, undef, undef, undef, undef, undef, undef, undef, undef, undef, undef, undef, undef, undef, undef, undef], []⟩ [.code body4]) []] W none) = .next last ∧
      step Tryz.prog last = .ended o wF ∧ Go.Conc.Good Tryz.prog (fun v W' => v = .bool true ∧ Below W.heap.size W W') last o wF t' := fun h =>
    run_post (fun v W' ⟨h1, h2, h3⟩ => ⟨h1, below_of_gw h2 h3 (Nat.le_refl _) (fun k e => by cases e)⟩) (dx_end Tryz.func4 rfl (by kernel_rfl) (fun w d h => h.at d) h rfl hlv (pastE_of past_nil))
  by_cases hn : 60 < L.length
  · exact known (begin4_many hA hn hG hK)
  by_cases hl : 600 < IntKind.i64.wrap (longL L : Nat)
  · exact known (begin4_long hA hn hl hG hK)
  clear known
  have hgo := begin4_go (nu := nu) (Shun := fun _ => False) hA hn hl hG hK hu0 hu1 (fun l h => h.elim)
  obtain ⟨k, hk⟩ : ∃ k : Nat, 1 + nu % 64 = (k : Int) := ⟨(1 + nu % 64).toNat, by omega⟩
  rw [hk] at hgo
  have hkk : clipI k = k := by unfold clipI; omega
  obtain ⟨M1, gs1, a1, w1, sl1, t1, q1, r1, h01, ⟨hp1, rfl⟩, L1, P1⟩ := dl_beside (sl := none) hgo rfl hlv (past_nil.mono (Nat.zero_le _))
  refine run_after r1 ?_
  have hsz := hp1.size
  have hK1 : StrAt w1 keys L := hK.below hp1.bl (Nat.le_refl _)
  subst hA
  obtain ⟨M2, gs2, w2, sl2, t2, q2, g, r2, h02, L2, P2, sw⟩ := shards_crowd (sl := sl1) h01 L1 P1 (fun l (h : False) => h.elim) (by omega) (keys_ready hK1 hs (fun l (h : False) => h.elim))
  refine run_after r2 ?_
  have hb2 : Below W.heap.size W w2 := hp1.bl.trans (sw.bl.mono (by omega))
  have hG2 : GlobOk w2 := hG.below hb2 hG.two
  have hK2 : StrAt w2 (.slice A L.length c) L := hK.below hb2 (Nat.le_refl _)
  have ⟨hlo, htop⟩ := And.intro sw.lo sw.top
  have hkw : ∀ a, KOf (.slice A L.length c) L a → a.block < W.heap.size := fun a ha => by
    obtain ⟨s, _, hs⟩ := kof_cell hK ha
    exact lt_of_cell hs
  have h2 := hG.two
  have hl3 := last4 (w := w2) (k := k) (m := clipI k) (nu := nu) (r := nu % 64) (r2 := nu) (Ob := W.heap.size) (C := w1.heap.size + 1) (g := g) (n := L.length) (lg := IntKind.i64.wrap (longL L : Nat)) (sl := sl2) (gs := gs2) (t := t2) (q := q2) (Shun := fun l => False ∨ ∃ a : Addr, l = .cell a ∧ a.block = g) hkk rfl (by omega) hs hK2 hG2
    (by
      obtain ⟨cs, c1, c2, c3⟩ := sw.out
      refine ⟨cs, c1, c2, fun k s hk => ?_⟩
      have := c3 k (List.getElem?_eq_some_iff.1 hk).1
      rw [hk] at this
      exact this)
    (by rw [sw.bl.block W.heap.size (by omega)]; exact hp1.o)
    ⟨by omega, htop, by omega, by omega⟩ (fun a ha => by have := hkw a ha; omega) (fun l h => h.elim False.elim id) (by rw [h02]; rfl) L2 (pastE_of P2)
  refine run_post (fun v W' ⟨h1, h3, h4⟩ => ⟨h1, hb2.trans ?_⟩) hl3
  exact below_of_gw h3 h4 (by have := sw.bl.size; omega) (fun k e => by cases e; omega)
end Go.Proofs.YtacimedkchjfnaaGreat
end

section
/-! append of a slice of texts to a slice of texts that the call owns. -/
namespace Go.Proofs.YtacimedkchjfnaaGreat
open Go.RowKit
set_option linter.unusedSimpArgs false
set_option linter.unusedVariables false

theorem run_append_zero (w : World) (ty : TypeId) {base : Nat} {v : Value} {xs : List Value} (hown : OwnP w base 9 IsStr v xs) (A : Option Addr) (c : Nat) :
    (Builtin.append_ #[22, 22] ty #[v, .slice A 0 c]).run Tryz.prog w = .ok v w ∧ (Builtin.append_ #[22, 22] ty #[v, .slice A 0 c]).events Tryz.prog w #[] = #[] := by
  obtain ⟨i, hi, hz0, hz1, hz2⟩ := info_parts inf9
  rcases hown with ⟨rfl, rfl⟩ | ⟨g, cap, cur, rfl, _, hg, hnc, _⟩
  · cases A <;> simp [Builtin.append_, run_underlying Tryz.underlying22, sizeOf, typeInfo, hi, Builtin.lenOf, Builtin.firstCells, loadCells, loadCellsFrom, storeCells]
  · cases A <;> simp [Builtin.append_, run_underlying Tryz.underlying22, sizeOf, typeInfo, hi, Builtin.lenOf, Builtin.firstCells, loadCells, loadCellsFrom, storeCells, hnc]
/-- append of texts onto a slice of the call's own: what comes, and what is listed. -/
theorem run_append_txt (w : World) (ty : TypeId) {base : Nat} {v x : Value} {xs : List Value} {l : List ByteArray} (hown : OwnP w base 9 IsStr v xs) (hx : StrAt w x l) (hn : xs.length + l.length ≤ 1000000) (hbase : base ≤ w.heap.size) :
    ∃ v' w', (Builtin.append_ #[22, 22] ty #[v, x]).run Tryz.prog w = .ok v' w' ∧ OwnP w' base 9 IsStr v' (xs ++ l.map .string) ∧ w.grownBy w' v.ownBlock ∧
      ∀ ev ∈ (Builtin.append_ #[22, 22] ty #[v, x]).events Tryz.prog w #[], (∃ ad wr sy, ev = ⟨.cell ad, wr, sy⟩ ∧ ad.block < w.heap.size) ∨ ev = ⟨.mark .noRoom, false, true⟩ := by
  obtain ⟨A, c, rfl, hm, hr⟩ := hx
  rcases Nat.eq_zero_or_pos l.length with h0 | hpos
  · obtain rfl : l = [] := List.eq_nil_of_length_eq_zero h0
    obtain ⟨h1, h2⟩ := run_append_zero w ty hown A c
    exact ⟨v, w, h1, by rw [List.map_nil, List.append_nil]; exact hown, World.grownBy.refl _ _, fun ev he => by
      rw [show (Value.slice A ([] : List ByteArray).length c) = .slice A 0 c from rfl, h2] at he
      simp at he⟩
  · obtain ⟨i, hi, hz0, hz1, hz2⟩ := info_parts inf9
    obtain ⟨g, off, rfl, hg, hcell⟩ := hr hpos
    have hnews : ∀ j u, (l.map Value.string)[j]? = some u → w.cell? ((⟨g, off, none⟩ : Addr).add j) = some u := by
      intro j u hu
      rw [List.getElem?_map] at hu
      obtain ⟨s, hs, rfl⟩ := Option.map_eq_some_iff.1 hu
      have e : (⟨g, off, none⟩ : Addr).add j = ⟨g, off + j, none⟩ := by unfold Addr.add; split <;> simp_all
      rw [e]
      exact hcell j s hs
    have h1 : ∀ u ∈ l.map Value.string, u.oneCell' = true := fun u hu => by
      obtain ⟨s, _, rfl⟩ := List.mem_map.1 hu
      rfl
    have hml : (l.map Value.string).length = l.length := List.length_map ..
    obtain ⟨g', cap, w', h2, h3, h4, h5, h6⟩ := run_append_P (P := Tryz.prog) w 22 ty base 9 IsStr i (.string ⟨#[]⟩) 16 Tryz.underlying22 hi hz0 hz1 hz2 rfl ⟨_, rfl⟩ v xs hown ⟨g, off, none⟩ l.length c (l.map Value.string) hml hnews h1 (fun u hu => by
      obtain ⟨s, _, rfl⟩ := List.mem_map.1 hu
      exact ⟨s, rfl⟩) hpos (by unfold maxLen; omega) (by omega) hbase
    refine ⟨_, _, h2, h3, h4, fun ev he => ?_⟩
    rcases events_append_where (P := Tryz.prog) w base 22 ty 9 i (.string ⟨#[]⟩) 1 16 Tryz.underlying22 hi hz0 hz1 hz2 v xs.length xs hown.own ⟨g, off, none⟩ l.length c (l.map Value.string) (by rw [hml, Nat.mul_one]) hnews h1 (by unfold maxLen; omega) (by omega) ev he with ⟨ad, e1, e2⟩ | ⟨m, e1, e2⟩
    · refine .inl ⟨ad, ev.write, ev.sync, by rw [← e1], ?_⟩
      rcases e2 with ⟨_, e3⟩ | e3
      · rw [e3]; exact hg
      · exact (hown.lt ad.block e3.symm).2
    · exact .inr (by rw [e1, show m = .noRoom from e2])
theorem wpList_append_txt {w : World} {ops : Array Oper} {rest : List Oper} {o : Oper} {a : Act} {Q : Exit → Act → World → Prop} (hgd : o.guard = none) (s x : Operand) (ho : o.op = .call { callee := .builtin .append, args := #[s, x], argTypes := #[22, 22] })
    (base : Nat) (v : Value) (xs : List Value) (hs : a.eval s = v) (hown : OwnP w base 9 IsStr v xs) (xv : Value) (l : List ByteArray) (hx : a.eval x = xv) (hxs : StrAt w xv l) (hn : xs.length + l.length ≤ 1000000) (hbase : base ≤ w.heap.size)
    (h : ∀ v' w', OwnP w' base 9 IsStr v' (xs ++ l.map .string) → w.grownBy w' v.ownBlock → wpList Tryz.prog ops Q rest (a.put o.dst v') w') : wpList Tryz.prog ops Q (o :: rest) a w := by
  refine wpList_plain hgd fun K hK => ?_
  obtain ⟨v', w', hr, h2, h3, _⟩ := run_append_txt w o.type hown hxs hn hbase
  unfold Oper.wp execOp
  simp only [ho, resolve, invoke, builtin, Sem.run_bind, Sem.run_pure, Result.andThen_ok, List.map_toArray, List.map_cons, List.map_nil, hs, hx, hr]
  exact hK _ _ (h v' w' h2 h3)
end Go.Proofs.YtacimedkchjfnaaGreat
end

section
/-! HashRows behind its three Spreads: the walk. -/
namespace Go.Proofs.YtacimedkchjfnaaGreat
open Go.RowKit
set_option linter.unusedSimpArgs false
set_option linter.unusedVariables false
attribute [local go_sem ↓] Go.wp_at_zero Go.wp_at_succ

noncomputable def body5 : Code := Tryz.f5.body.getD .skip
/-- The code from the first Spread on. -/
noncomputable def from5 : Code := match body5 with
  | .seq _ (.seq _ (.seq _ (.seq _ (.seq _ (.seq _ c))))) => c
  | _ => .skip
noncomputable def ops57 : Array Oper := match from5 with
  | .seq (.region _ ops _) _ => ops
  | _ => #[]
noncomputable def rest57 : Code := match from5 with
  | .seq _ c => c
  | _ => .skip
noncomputable def ops58 : Array Oper := match rest57 with
  | .seq (.region _ ops _) _ => ops
  | _ => #[]
noncomputable def rest58 : Code := match rest57 with
  | .seq _ c => c
  | _ => .skip
noncomputable def ops59 : Array Oper := match rest58 with
  | .seq (.region _ ops _) _ => ops
  | _ => #[]
noncomputable def rest59 : Code := match rest58 with
  | .seq _ c => c
  | _ => .skip
/-- HashRows' slots at its calls of Spread. -/
def T5 (a b : Value) (nu k la lb ls na nb ns r r2 : Int) (v1 al s9 s10 s39 s40 s41 s42 s43 s44 s45 s46 s47 : Value) : Array Value :=
  #[a, b, .int .u8 nu, undef, undef, undef, .bool false, al, .int .i64 k, s9, s10, undef, undef, undef, a, .int .i64 la, b, .int .i64 lb, .int .i64 ls, .bool false, .bool false, a, .int .i64 na, b, .int .i64 nb, .int .i64 ns, .bool false, .bool false, undef, .slice none 0 0, a, v1, v1, b, al, .int .u8 nu, .int .i64 r2, .int .i64 r, .int .i64 k, s39, s40, s41, s42, s43, s44, s45, s46, s47, undef, undef, undef, undef, undef, undef, undef, undef, undef, undef, undef, undef, undef, undef, undef, undef, undef, undef, undef, undef, undef, undef, undef, undef, undef, undef, undef, undef, undef, undef, undef, undef, undef, undef, undef, undef, undef, undef, undef, undef, undef]
theorem RowsR.at {w : World} {v : Value} {L : List ByteArray} {n : Int} (h : RowsR w v (spreadRows L n)) : ∃ (g off c : Nat), v = .slice (some ⟨g, off, none⟩) (clipI n) c ∧ g < w.heap.size ∧
    ∀ j, j < clipI n → ∃ (u : Value), w.cell? ⟨g, off + j, none⟩ = some u ∧ StrAt w u (spreadF L n j) := by
  obtain ⟨A, c, vs, h1, h2, h3, h4, h5⟩ := h
  have hb := clipI_bounds n
  rw [spreadRows_len] at h1 h2 h3 h4
  obtain ⟨g, off, rfl, h6, h7⟩ := h4 (by omega)
  refine ⟨g, off, c, h1, h6, fun j hj => ?_⟩
  have hu : vs[j]? = some vs[j] := List.getElem?_eq_getElem (by omega)
  have hl : (spreadRows L n)[j]? = some (spreadF L n j) := by simp [spreadRows, hj]
  exact ⟨_, h7 j _ hu, h5 j _ _ hu hl⟩
theorem spreadF_app (La Lb : List ByteArray) (n : Int) (j : Nat) : spreadF (La ++ Lb) n j = spreadF La n j ++ spreadF Lb n j := List.filter_append ..
set_option maxRecDepth 20000 in
set_option maxHeartbeats 16000000 in
theorem rest5 {w : World} {a b v1 al r1 r2v r3 s39 s40 s41 s42 s43 s44 s45 s46 : Value} {La Lb : List ByteArray} {k : Nat} {nu la lb ls na nb ns r r2 : Int} (hk : clipI k = k) (hN : La.length + Lb.length ≤ 1000000)
    (hv1 : RowsR w r1 (spreadRows La k)) (hv2 : RowsR w r2v (spreadRows Lb k)) (hv3 : RowsR w r3 (spreadRows (La ++ Lb) k)) :
    RestRuns Tryz.prog 5 [.inRegion ops59 [3], .code rest59] ⟨T5 a b nu k la lb ls na nb ns r r2 v1 al r1 r2v s39 s40 s41 s42 s43 s44 s45 s46 r3, []⟩ w (fun r w' => r = .bool true ∧ Below w.heap.size w w') := by
  refine rest1_of_wp Tryz.func5 ?_
  obtain ⟨g1, o1, c1, rfl, hg1, hrow1⟩ := hv1.at
  obtain ⟨g2, o2, c2, rfl, hg2, hrow2⟩ := hv2.at
  obtain ⟨g3, o3, c3, rfl, hg3, hrow3⟩ := hv3.at
  rw [hk] at hrow1 hrow2 hrow3 ⊢
  have HR1 := Asd.mk hrow1
  have HR2 := Asd.mk hrow2
  have HR3 := Asd.mk hrow3
  have HG := Asd.mk (And.intro hg1 (And.intro hg2 hg3))
  have HN := Asd.mk hN
  have HK := Asd.mk hk
  have hk64 : k ≤ 64 := by have := clipI_bounds k; omega
  have hk0 : 1 ≤ k := by have := clipI_bounds k; omega
  clear hrow1 hrow2 hrow3 hN hk hv1 hv2 hv3 hg1 hg2 hg3
  rw [range_ops (l := [3]) [ops59.getD 3 default] 3 (by
    intro j
    simp only [ops59, rest58, rest57, from5, body5, Tryz.f5, Option.getD_some]
    match j with
    | 0 => rfl
    | j + 1 => simp only [List.getElem?_cons_succ, List.getElem?_nil]; rw [Array.getElem?_eq_none]; simp; omega) rfl]
  simp only [ops59, rest59, rest58, rest57, from5, body5, Tryz.f5, Option.getD_some, T5]
  have hneq : ((k : Int) != (k : Int)) = false := by simp
  go_wp2
  have HB0 : Asd (Below w.heap.size w w) := ⟨Below.refl _ _⟩
  go_loopg [12] k (fun kq v12 wr => ∃ i : Nat, v12 = .int .i64 (i : Int) ∧ Asd (kq + i = k) ∧ Asd (Below w.heap.size w wr))
  case atStart => exact ⟨0, rfl, ⟨by omega⟩, HB0⟩
  case round =>
    clear HB0
    obtain ⟨i, rfl, HI, HB⟩ := hrel
    have hi := HI.out
    cases gk with
    | zero =>
      obtain rfl : i = k := by omega
      have hlt2 : decide (i < i) = false := by simp
      clear hi
      go_wp2_with fail
      refine (known_calls _).mono ?_
      rintro e w4 ⟨rfl, hb4⟩
      have HB4 : Asd (Below w.heap.size w w4) := ⟨HB.out.trans ((show Below wr.heap.size wr w4 from ⟨hb4.os, hb4.tape, hb4.output, hb4.size, hb4.block⟩).mono HB.out.size)⟩
      clear hb4
      go_wp2_with fail
      go_ret
      exact ⟨_, rfl, rfl, HB4.out⟩
    | succ k1 =>
      have hlt : i < k := by omega
      have hlt2 : decide (i < k) = true := decide_eq_true hlt
      obtain ⟨u1, hu1, hs1⟩ := HR1.out i hlt
      obtain ⟨u2, hu2, hs2⟩ := HR2.out i hlt
      obtain ⟨u3, hu3, hs3⟩ := HR3.out i hlt
      have d1 : wr.cell? ⟨g1, o1 + i, none⟩ = some u1 := (HB.out.cell (p := ⟨g1, o1 + i, none⟩) HG.out.1).trans hu1
      have HS1 := Asd.mk (hs1.below HB.out (Nat.le_refl _))
      have HS2 := Asd.mk hs2
      have HS3 := Asd.mk hs3
      have HU2 := Asd.mk hu2
      have HU3 := Asd.mk hu3
      have hi0 : (0 : Int) ≤ (i : Int) := Int.natCast_nonneg _
      have hik : (i : Int) < (k : Int) := by omega
      have hl1 := spreadF_len La k i
      have hl2 := spreadF_len Lb k i
      have hNN := HN.out
      have HL := Asd.mk (And.intro hl1 (And.intro hl2 hNN))
      have HW0 := Asd.mk HB.out.size
      clear hu1 hu2 hu3 hs1 hs2 hs3 hi hl1 hl2 hNN
      go_wp2_with (at_builtin; refine wpList_append_txt rfl _ _ rfl w.heap.size _ [] rfl ownP_nil _ (spreadF La k i) rfl HS1.out ?c1 HW0.out ?_)
      case c1 => have := HL.out; simp; omega
      intro v5 w5 hown5 hgrow5
      have HB5 : Asd (Below w.heap.size w w5) := ⟨HB.out.grown hgrow5 HW0.out (fun k hk => by cases hk)⟩
      have d2 : w5.cell? ⟨g2, o2 + i, none⟩ = some u2 := (HB5.out.cell (p := ⟨g2, o2 + i, none⟩) HG.out.2.1).trans HU2.out
      have HS2' := Asd.mk (HS2.out.below HB5.out (Nat.le_refl _))
      have HOWN5 := Asd.mk hown5
      have HW5 := Asd.mk HB5.out.size
      clear hown5 hgrow5 d1
      go_wp2_with (at_builtin; refine wpList_append_txt rfl _ _ rfl w.heap.size _ _ rfl HOWN5.out _ (spreadF Lb k i) rfl HS2'.out ?c2 HW5.out ?_)
      case c2 => have := HL.out; simp; omega
      intro v6 w6 hown6 hgrow6
      have HB6 : Asd (Below w.heap.size w w6) := ⟨HB5.out.grown hgrow6 HW5.out (fun k hk => (HOWN5.out.lt k hk).1)⟩
      have d3 : w6.cell? ⟨g3, o3 + i, none⟩ = some u3 := (HB6.out.cell (p := ⟨g3, o3 + i, none⟩) HG.out.2.2).trans HU3.out
      have HS3' := Asd.mk (HS3.out.below HB6.out (Nat.le_refl _))
      have HV6 : Asd (StrAt w6 v6 (spreadF (La ++ Lb) k i)) := ⟨StrAt.own (n := (spreadF (La ++ Lb) k i).length) (by
        have := hown6.own
        rw [← List.map_append, ← spreadF_app] at this
        rwa [List.length_map] at this)⟩
      clear hown6 hgrow6 d2
      go_wp2_with fail
      refine (same_yes HV6.out HS3'.out rfl).mono ?_
      rintro e w7 ⟨rfl, m, rfl⟩
      have HB7 : Asd (Below w.heap.size w (w6.drewN m)) := ⟨HB6.out.trans ⟨rfl, rfl, rfl, Nat.le_refl _, fun _ _ => rfl⟩⟩
      go_wp2_with fail
      go_roundg k1
      case measure => omega
      case rel => exact ⟨i + 1, by go_num, ⟨by have := HI.out; omega⟩, HB7⟩
end Go.Proofs.YtacimedkchjfnaaGreat
end

section
/-! A call of Spread, on whatever tape, whatever old goroutines still leave. -/
namespace Go.Proofs.YtacimedkchjfnaaGreat
set_option linter.unusedSimpArgs false
set_option linter.unusedVariables false
set_option maxRecDepth 20000
open Go.Conc Go.RowKit
open Go.ConcN (sumTo upd)
theorem t92Q : restB Tryz.prog LP [] 9 ops92 [3, 4] = true := by kernel_rfl
theorem t9bQ : codeB Tryz.prog LP [] 9 blk9 = true := by kernel_rfl
theorem t9eQ : codeB Tryz.prog LP [] 9 end9 = true := by kernel_rfl
theorem items9Q {B : Nat → Prop} {K : Addr → Prop} (h0 : B 0) : ∀ x ∈ [Item.inRegion ops92 [3, 4], .code blk9, .code end9], ItemOk (scOf B K true LP []) Tryz.prog 9 x := by
  intro x hx
  simp only [List.mem_cons, List.not_mem_nil, or_false] at hx
  rcases hx with rfl | rfl | rfl
  · exact item_region h0 t92Q
  · exact item_code h0 t9bQ
  · exact item_code h0 t9eQ
section
variable {w : World} {keys : Value} {L : List ByteArray} {nv : Int} {m Ob C : Nat}
theorem cwk3q (hG : GlobOk w) (hK : StrAt w keys L) (hC : ∃ cs, w.heap[C]? = some (.cells cs 3) ∧ cs.size = L.length ∧ ∀ (k : Nat) s, L[k]? = some s → cs[k]? = some (.int .i64 (shardN s nv : Nat)))
    (hO : w.heap[Ob]? = some (.cells (List.replicate m (.slice none 0 0)).toArray 22)) : CWK (scOf (B3 w Ob C) (KOf keys L) true LP []) w where
  objs := by
    rintro r o (rfl | rfl | rfl | rfl | hr) ho
    · exact hG.cl 0 (.inl rfl) o ho _
    · exact hG.cl 1 (.inr rfl) o ho _
    · rw [hO] at ho
      cases ho
      refine .cells _ _ _ fun x hx => ?_
      simp only [List.mem_toArray, List.mem_replicate] at hx
      rw [hx.2]
      exact .slice0 _ _
    · obtain ⟨cs, h1, h2, h3⟩ := hC
      rw [h1] at ho
      cases ho
      refine .cells _ _ _ fun x hx => ?_
      obtain ⟨k, hk⟩ := Array.getElem?_of_mem hx
      have hlt := (Array.getElem?_eq_some_iff.1 hk).1
      rw [h2] at hlt
      have := h3 k L[k] (List.getElem?_eq_getElem hlt)
      rw [hk] at this
      cases this
      exact .int _ _
    · rw [Array.getElem?_eq_none hr] at ho; cases ho
  fresh := fun r hr => .inr (.inr (.inr (.inr hr)))
  kc := by
    intro a ha
    obtain ⟨s, _, hs⟩ := kof_cell hK ha
    refine ⟨?_, s, hs⟩
    obtain ⟨g, off, c, k, s', rfl, hs', rfl⟩ := ha
    rintro (h | h | h | h | h)
    · exact hG.txt _ (.inl h) _ _ hs
    · exact hG.txt _ (.inr h) _ _ hs
    · have h : g = Ob := h
      subst h
      rw [dropCell hO] at hs
      simp only [List.getElem?_toArray, List.getElem?_replicate] at hs
      split at hs <;> cases hs
    · obtain ⟨cs, h1, h2, h3⟩ := hC
      have h : g = C := h
      subst h
      rw [dropCell h1] at hs
      have hlt := (Array.getElem?_eq_some_iff.1 hs).1
      rw [h2] at hlt
      have := h3 _ _ (List.getElem?_eq_getElem hlt)
      rw [hs] at this
      cases this
    · have := lt_of_cell hs
      omega
end
section
variable {gs : Array Goroutine} {sl : Option (Nat × Nat)} {t : Trace} {q : Nat → Nat} {Shun : Loc → Prop} {W : World} {keys : Value} {L : List ByteArray} {nv : Int} {c : Frame} {cs₀ : List Frame}
/-- What a call of Spread leaves; g: the group's block. -/
structure SPR (W : World) (L : List ByteArray) (nv : Int) (Ob g B0 : Nat) (vs : List Value) (w' : World) : Prop where
  bel : Below W.heap.size W w'
  ob : W.heap.size ≤ Ob
  og : Ob < g
  gb : g < B0
  top : B0 ≤ w'.heap.size
  rows : RowsAt w' B0 Ob (clipI nv) vs (spreadF L nv)
set_option maxHeartbeats 4000000 in
/-- ████ 'Spread', ON WHATEVER TAPE, WHATEVER OLD GOROUTINES STILL LEAVE. ████ -/
theorem spread_crowd (hG : GlobOk W) (hK : StrAt W keys L) (hs : ∀ s ∈ L, s.size ≤ 140737488355328) (hN : L.length ≤ 1000000)
    (h0 : gs[0]? = some (G ((base 9).at ⟨#[keys, .int .i64 nv, undef, undef, undef, undef, undef, undef, undef, undef, undef, undef, undef, undef, undef, undef, undef, undef, undef, undef, undef, undef, undef, undef, undef, undef, undef, undef, undef, undef, undef, undef, undef, undef, undef], []⟩ [.code (Tryz.f9.body.getD .skip)]) (c :: cs₀)))
    (hL : Leavers Tryz.prog t gs q) (hP : Past Shun W.heap.size t) (hS : ∀ l, Shun l → ∃ a : Addr, l = .cell a ∧ 2 ≤ a.block ∧ a.block < W.heap.size) (hSK : ∀ a, KOf keys L a → ¬ Shun (.cell a)) :
    ∃ (M : Nat) (gs' : Array Goroutine) (w' : World) (sl' : Option (Nat × Nat)) (t' : Trace) (q' : Nat → Nat) (Ob g B0 : Nat) (vs : List Value),
      runNT Tryz.prog M (crowd gs W sl) t = (.next (crowd gs' w' sl'), t') ∧ gs'[0]? = some (G (c.finish (.slice (some ⟨Ob, 0, none⟩) (clipI nv) (clipI nv))) cs₀) ∧
        Leavers Tryz.prog t' gs' q' ∧ Past (fun l => Shun l ∨ ∃ a : Addr, l = .cell a ∧ a.block = g) w'.heap.size t' ∧ SPR W L nv Ob g B0 vs w' := by
  -- its begin
  have bw1 : BW Tryz.prog (DL Shun) (fun gg w2 => PO W (clipI nv) w2 ∧ gg = G ((base 16).at ⟨#[keys, .int .i64 nv, undef, undef, undef, undef, undef, undef, undef, undef, undef, undef, undef, undef, undef, undef, undef, undef, undef, undef, undef, undef, undef, undef, undef, undef, undef, undef, undef, undef, undef, undef, undef, undef, undef, undef], []⟩ [.code (Tryz.f16.body.getD .skip)]) ((base 9).at ⟨T9b keys nv (clipI nv) W.heap.size, []⟩ [.inRegion ops92 [2, 3, 4], .code blk9, .code end9] :: c :: cs₀))
      (G ((base 9).at ⟨#[keys, .int .i64 nv, undef, undef, undef, undef, undef, undef, undef, undef, undef, undef, undef, undef, undef, undef, undef, undef, undef, undef, undef, undef, undef, undef, undef, undef, undef, undef, undef, undef, undef, undef, undef, undef, undef], []⟩ [.code (Tryz.f9.body.getD .skip)]) (c :: cs₀)) W :=
    bw_weaken (fun _ _ _ h => dl_of_dg h) (fun _ _ h => h) (bw_of_gd (fun d w w' es h => dg_deaf h) (begin9 (D := DG) (W := W) (nv := nv) (keys := keys) (cs₀ := c :: cs₀) (n := 0)
      (Stop := fun _ gg w2 => PO W (clipI nv) w2 ∧ gg = G ((base 16).at ⟨#[keys, .int .i64 nv, undef, undef, undef, undef, undef, undef, undef, undef, undef, undef, undef, undef, undef, undef, undef, undef, undef, undef, undef, undef, undef, undef, undef, undef, undef, undef, undef, undef, undef, undef, undef, undef, undef, undef], []⟩ [.code (Tryz.f16.body.getD .skip)]) ((base 9).at ⟨T9b keys nv (clipI nv) W.heap.size, []⟩ [.inRegion ops92 [2, 3, 4], .code blk9, .code end9] :: c :: cs₀))
      tG (fun w o => ⟨rfl, by rw [size_alloc]; omega, rfl⟩) (fun w hp => GD.stop fun w₁ h₁ => by
        obtain ⟨d2, rfl⟩ := h₁
        exact ⟨⟨below_at hp.bl _, hp.size, hp.o⟩, rfl⟩)))
  obtain ⟨M1, gs1, a1, w1, sl1, t1, q1, r1, h01, ⟨hp1, rfl⟩, L1, P1⟩ := dl_beside (sl := sl) bw1 h0 hL hP
  -- shards
  have hsz := hp1.size
  have hK1 : StrAt w1 keys L := hK.below hp1.bl (Nat.le_refl _)
  have hkw : ∀ a, KOf keys L a → a.block < W.heap.size := fun a ha => by
    obtain ⟨s, _, hs⟩ := kof_cell hK ha
    exact lt_of_cell hs
  have hA : ∃ A c, keys = .slice A L.length c := by obtain ⟨A, c, h, _⟩ := hK; exact ⟨A, c, h⟩
  obtain ⟨A, cc, rfl⟩ := hA
  have h2 := hG.two
  obtain ⟨M2, gs2, w2, sl2, t2, q2, g, r2, h02, L2, P2, sw⟩ := shards_crowd (sl := sl1) h01 L1 P1 (fun l h => by
      obtain ⟨a, e1, e2, e3⟩ := hS l h
      exact ⟨a, e1, by omega⟩) hN (keys_ready hK1 hs (fun l h => by
      obtain ⟨a, e1, e2, e3⟩ := hS l h
      exact ⟨a, e1, fun hk => hSK a hk (e1 ▸ h)⟩))
  have hb2 : Below W.heap.size W w2 := hp1.bl.trans (sw.bl.mono (by omega))
  have hG2 : GlobOk w2 := hG.below hb2 hG.two
  have hK2 : StrAt w2 (.slice A L.length cc) L := hK.below hb2 (Nat.le_refl _)
  have ⟨hlo, htop⟩ := And.intro sw.lo sw.top
  have hC2 : ∃ cs, w2.heap[w1.heap.size + 1]? = some (.cells cs 3) ∧ cs.size = L.length ∧ ∀ (k : Nat) s, L[k]? = some s → cs[k]? = some (.int .i64 (shardN s nv : Nat)) := by
    obtain ⟨cs, c1, c2, c3⟩ := sw.out
    refine ⟨cs, c1, c2, fun k s hk => ?_⟩
    have := c3 k (List.getElem?_eq_some_iff.1 hk).1
    rw [hk] at this
    exact this
  have hO2 : w2.heap[W.heap.size]? = some (.cells (List.replicate (clipI nv) (.slice none 0 0)).toArray 22) := by rw [sw.bl.block W.heap.size (by omega)]; exact hp1.o
  -- its rest
  have X := prgQ (B := B3 w2 W.heap.size (w1.heap.size + 1)) (K := KOf (.slice A L.length cc) L) (.inl rfl) (.inr (.inl rfl))
  have hsh : ∀ l, (Shun l ∨ ∃ a : Addr, l = .cell a ∧ a.block = g) → ∃ a : Addr, l = .cell a ∧ ¬ B3 w2 W.heap.size (w1.heap.size + 1) a.block ∧ ¬ KOf (.slice A L.length cc) L a := by
    rintro l (hl | ⟨a, e1, e2⟩)
    · obtain ⟨a, e1, e2, e3⟩ := hS l hl
      refine ⟨a, e1, ?_, fun hk => hSK a hk (e1 ▸ hl)⟩
      rintro (h | h | h | h | h) <;> omega
    · refine ⟨a, e1, ?_, fun hk => by have := hkw a hk; omega⟩
      rintro (h | h | h | h | h) <;> omega
  have bw3 : BW Tryz.prog (DL (fun l => Shun l ∨ ∃ a : Addr, l = .cell a ∧ a.block = g)) (fun gg w3 => gg = G (c.finish (.slice (some ⟨W.heap.size, 0, none⟩) (clipI nv) (clipI nv))) cs₀ ∧ GW w2 w3 (some W.heap.size) ∧ ∃ vs, RowsAt w3 w2.heap.size W.heap.size (clipI nv) vs (spreadF L nv))
      (G ((base 9).at ⟨T9 (.slice A L.length cc) nv (clipI nv) W.heap.size (w1.heap.size + 1) L.length, []⟩ [.inRegion ops92 [3, 4], .code blk9, .code end9]) (c :: cs₀)) w2 := by
    refine bw_bind (bw_weaken (fun _ _ _ h => dl_of rfl hsh h) (fun _ _ h => h) (stretch9 rfl hN hK2 hG2 hC2 hO2 X (items9Q (.inl rfl)) (cwk3q (nv := nv) hG2 hK2 hC2 hO2) (c :: cs₀))) ?_
    rintro gg w3 ⟨fr, rfl, hlv, hcw3, hgw, vs, hvs⟩
    refine bw_step (fun w => ⟨fun e he => by simp at he, Nat.le_refl _, rfl⟩) rfl (fun w => leaveT_step Tryz.func9 rfl hlv true _ _ w) (fun d => ?_)
    exact .stop fun d2 => ⟨rfl, hgw.at _, vs, hvs.len, hvs.out, hvs.own, hvs.apart⟩
  obtain ⟨M3, gs3, a3, w3, sl3, t3, q3, r3, h03, ⟨⟨rfl, hgw, vs, hvs⟩, htape⟩, L3, P3⟩ := dl_beside (sl := sl2) (bw_tape (fun _ _ _ h => h.2.2) bw3) (by rw [h02]; rfl) L2 P2
  refine ⟨M1 + (M2 + M3), gs3, w3, sl3, t3, q3, W.heap.size, g, w2.heap.size, vs, ?_, h03, L3, P3, hb2.trans (below_of_gw hgw htape (by have := sw.bl.size; omega) (fun k e => by cases e; exact Nat.le_refl _)), Nat.le_refl _, by omega, htop, hgw.size, hvs⟩
  rw [runNT_add, r1]
  show runNT Tryz.prog (M2 + M3) (crowd gs1 w1 sl1) t1 = _
  rw [runNT_add, r2]
  exact r3
end
end Go.Proofs.YtacimedkchjfnaaGreat
end

section
/-! Blocks of texts stay blocks of texts. -/
namespace Go.Proofs.YtacimedkchjfnaaGreat
open Go.RowKit
set_option linter.unusedSimpArgs false
set_option linter.unusedVariables false
/-- A block all of whose cells are texts. -/
def StrB (w : World) (g : Nat) : Prop := ∃ cur f, w.heap[g]? = some (.cells cur 9 f) ∧ ∀ u ∈ cur, IsStr u
theorem OwnP.strB {w : World} {base : Nat} {v : Value} {xs : List Value} (h : OwnP w base 9 IsStr v xs) : v = .slice none 0 0 ∨ ∃ g n cap, v = .slice (some ⟨g, 0, none⟩) n cap ∧ base ≤ g ∧ StrB w g := by
  rcases h with ⟨rfl, _⟩ | ⟨g, cap, cur, h1, h2, h3, _, _, _, _, h4⟩
  · exact .inl rfl
  · exact .inr ⟨g, _, cap, h1, h2, cur, _, h3, h4⟩
theorem StrB.below {w w' : World} {B g : Nat} (h : StrB w g) (hb : Below B w w') (hg : g < B) : StrB w' g := by
  obtain ⟨cur, f, h1, h2⟩ := h
  exact ⟨cur, f, by rw [hb.block g hg]; exact h1, h2⟩
theorem StrB.lt {w : World} {g : Nat} (h : StrB w g) : g < w.heap.size := by
  obtain ⟨cur, f, h1, _⟩ := h
  exact (Array.getElem?_eq_some_iff.1 h1).1
theorem append_strs {w w' : World} {ty : TypeId} {base : Nat} {v v' x : Value} {xs : List Value} {l : List ByteArray} (hown : OwnP w base 9 IsStr v xs) (hx : StrAt w x l) (hn : xs.length + l.length ≤ 1000000) (hbase : base ≤ w.heap.size)
    (hr : (Builtin.append_ #[22, 22] ty #[v, x]).run Tryz.prog w = .ok v' w') {g : Nat} (hg : StrB w g) : StrB w' g := by
  obtain ⟨v2, w2, hr2, hown2, hgr, _⟩ := run_append_txt w ty hown hx hn hbase
  rw [hr] at hr2
  injection hr2 with e1 e2
  subst e1 e2
  by_cases hb : v.ownBlock = some g
  · obtain ⟨i, hi, hz0, hz1, hz2⟩ := info_parts inf9
    obtain ⟨A, c, rfl, hm, hrx⟩ := hx
    rcases Nat.eq_zero_or_pos l.length with h0 | hpos
    · obtain rfl : l = [] := List.eq_nil_of_length_eq_zero h0
      obtain ⟨h1, _⟩ := run_append_zero w ty hown A c
      rw [show (Value.slice A ([] : List ByteArray).length c) = .slice A 0 c from rfl, h1] at hr
      injection hr with e1 e2
      subst e2
      exact hg
    · obtain ⟨gx, off, rfl, hgx, hcell⟩ := hrx hpos
      rcases id hown with ⟨rfl, rfl⟩ | ⟨g', cap, cur, rfl, hbg, hgg, hnc, hcm, hcs, htake, hpu⟩
      · simp [Value.ownBlock] at hb
      · obtain rfl : g' = g := by simpa [Value.ownBlock] using hb
        by_cases hroom : xs.length + l.length ≤ cap
        · have hnews : ∀ j u, (l.map Value.string)[j]? = some u → w.cell? ((⟨gx, off, none⟩ : Addr).add j) = some u := by
            intro j u hu
            rw [List.getElem?_map] at hu
            obtain ⟨s, hs, rfl⟩ := Option.map_eq_some_iff.1 hu
            have e : (⟨gx, off, none⟩ : Addr).add j = ⟨gx, off + j, none⟩ := by unfold Addr.add; split <;> simp_all
            rw [e]
            exact hcell j s hs
          have h1 : ∀ u ∈ l.map Value.string, u.oneCell' = true := fun u hu => by
            obtain ⟨s, _, rfl⟩ := List.mem_map.1 hu
            rfl
          have hr3 := run_append_room (P := Tryz.prog) w 22 ty 9 i Tryz.underlying22 hi g' xs.length cap cur hgg ⟨gx, off, none⟩ l.length c (l.map Value.string) (by rw [List.length_map, hz1, Nat.mul_one]) hnews h1 hroom (by rw [hz1, Nat.mul_one, List.length_map, hcs]; exact hroom)
          rw [hr] at hr3
          injection hr3 with e1 e2
          subst e1
          rcases hown2.strB with h | ⟨g2, n2, cap2, e, _, hs⟩
          · cases h
          · injection e with e3 _ _
            injection e3 with e3
            injection e3 with e3 _
            rw [e3]
            exact hs
        · have holds : ∀ j u, xs[j]? = some u → w.cell? ((⟨g', 0, none⟩ : Addr).add j) = some u := hown.own.cells (g := g') rfl
          have hnews : ∀ j u, (l.map Value.string)[j]? = some u → w.cell? ((⟨gx, off, none⟩ : Addr).add j) = some u := by
            intro j u hu
            rw [List.getElem?_map] at hu
            obtain ⟨s, hs, rfl⟩ := Option.map_eq_some_iff.1 hu
            have e : (⟨gx, off, none⟩ : Addr).add j = ⟨gx, off + j, none⟩ := by unfold Addr.add; split <;> simp_all
            rw [e]
            exact hcell j s hs
          have hr3 := run_append_grow (P := Tryz.prog) w 22 ty 9 i (.string ⟨#[]⟩) Tryz.underlying22 hi hz0 ⟨g', 0, none⟩ xs.length cap xs (by rw [hz1, Nat.mul_one]) holds ⟨gx, off, none⟩ l.length c (l.map Value.string) (by rw [List.length_map, hz1, Nat.mul_one]) hnews (by omega) (by omega) (growslice_fits (by omega) (by rw [hz2]; omega))
          rw [hr] at hr3
          injection hr3 with e1 e2
          subst e2
          obtain ⟨cu, f, h5, h6⟩ := hg
          refine ⟨cu, f, ?_, h6⟩
          rw [Below.heap_alloc w.drew _ g' (Array.getElem?_eq_some_iff.1 h5).1]
          exact h5
  · obtain ⟨cur, f, h1, h2⟩ := hg
    exact ⟨cur, f, by rw [hgr.block g (Array.getElem?_eq_some_iff.1 h1).1 (fun e => hb e.symm)]; exact h1, h2⟩
end Go.Proofs.YtacimedkchjfnaaGreat
end
