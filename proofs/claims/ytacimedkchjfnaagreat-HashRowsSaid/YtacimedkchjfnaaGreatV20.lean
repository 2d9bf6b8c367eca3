/- Part 20 of the proof: E4, E5, E6, E7, E8. -/
import Derived.Test.YtacimedkchjfnaaGreatV19
section
/-! HashSpreads behind its shards, beside leavers, to its end. -/
namespace Go.Proofs.YtacimedkchjfnaaGreat
set_option linter.unusedSimpArgs false
set_option linter.unusedVariables false
set_option maxRecDepth 20000
open Go.Conc Go.RowKit
open Go.ConcN (sumTo upd)
/-- Spread, behind shards, beside leavers: to its leaving; what S's frames below are does not matter. -/
theorem stretch9 {w : World} {keys : Value} {L : List ByteArray} {nv : Int} {m Ob C : Nat} (hm : m = clipI nv) (hN : L.length ≤ 1000000) (hK : StrAt w keys L) (hG : GlobOk w)
    (hC : ∃ cs, w.heap[C]? = some (.cells cs 3) ∧ cs.size = L.length ∧ ∀ (k : Nat) s, L[k]? = some s → cs[k]? = some (.int .i64 (shardN s nv : Nat)))
    (hO : w.heap[Ob]? = some (.cells (List.replicate m (.slice none 0 0)).toArray 22)) {q : Bool} {LL : List Nat} {NN : List (List Nat)} (X : PrgC (scOf (B3 w Ob C) (KOf keys L) q LL NN) Tryz.prog)
    (hit : ∀ x ∈ [Item.inRegion ops92 [3, 4], .code blk9, .code end9], ItemOk (scOf (B3 w Ob C) (KOf keys L) q LL NN) Tryz.prog 9 x) (hcw : CWK (scOf (B3 w Ob C) (KOf keys L) q LL NN) w) (base0 : List Frame) :
    BW Tryz.prog (DIn (scOf (B3 w Ob C) (KOf keys L) q LL NN))
      (fun gg w2 => ∃ fr, gg = G fr base0 ∧ LeaveT 9 4 fr (.slice (some ⟨Ob, 0, none⟩) m m) ∧ CWK (scOf (B3 w Ob C) (KOf keys L) q LL NN) w2 ∧ GW w w2 (some Ob) ∧ ∃ vs, RowsAt w2 w.heap.size Ob m vs (spreadF L nv))
      (G ((base 9).at ⟨T9 keys nv m Ob C L.length, []⟩ [.inRegion ops92 [3, 4], .code blk9, .code end9]) base0) w := by
  have hx : Inv (scOf (B3 w Ob C) (KOf keys L) q LL NN) Tryz.prog w.tape ⟨(base 9).at ⟨(T9 keys nv m Ob C L.length).toList.toArray, []⟩ [.inRegion ops92 [3, 4], .code blk9, .code end9], [], w⟩ :=
    ⟨frOk_base hit (slots9 (kv_of hK fun a h => h) (.inr (.inr (.inl rfl))) (.inr (.inr (.inr (.inl rfl)))) rfl) ⟨_, Tryz.func9⟩, by simp, hcw, rfl⟩
  refine lift (x := ⟨(base 9).at ⟨(T9 keys nv m Ob C L.length).toList.toArray, []⟩ [.inRegion ops92 [3, 4], .code blk9, .code end9], [], w⟩) X (base := base0) hx (Fin := fun fr wz => LeaveT 9 4 fr (.slice (some ⟨Ob, 0, none⟩) m m) ∧ GW w wz (some Ob) ∧ ∃ vs, RowsAt wz w.heap.size Ob m vs (spreadF L nv)) ?_ ?_
  · intro τ
    have hrest := rest9 (w := re w τ 0) (keys := keys) (L := L) (nv := nv) (m := m) (Ob := Ob) (C := C) hm hN hK (fun k s hs => by
      obtain ⟨cs, h1, h2, h3⟩ := hC
      exact (dropCell (w := re w τ 0) h1 k).trans (h3 k s hs)) hO
    obtain ⟨v, wz, fr, ⟨rfl, hgr, hvs⟩, hst, hfn, hlv⟩ := hrest (base 9) [c0] rfl rfl rfl
    obtain ⟨N, hN⟩ := hst
    exact ⟨N, fr, wz, hN, leaveT_of Tryz.func9 rfl hfn hlv, gw_of_grown (d := 0) hgr, hvs⟩
  · rintro fr wz τ d hf hcwz ⟨h1, h2, vs, h3⟩ d'
    exact ⟨fr, rfl, h1, ⟨⟨hcwz.objs, hcwz.fresh⟩, hcwz.kc⟩, ⟨h2.os, h2.output, h2.size, h2.block⟩, vs, ⟨h3.len, h3.out, h3.own, h3.apart⟩⟩
section
variable {w : World} {keys : Value} {L : List ByteArray} {nv n lg : Int} {m Ob C g : Nat} {gs : Array Goroutine} {sl : Option (Nat × Nat)} {t : Trace} {q : Nat → Nat} {Shun : Loc → Prop}
theorem kof_ne (hK : StrAt w keys L) {o : Obj} (hO : w.heap[Ob]? = some o) (hn : ∀ (c : Array Value) (ty : TypeId) (f : Nat × Nat) (i : Nat) (s : ByteArray), o = .cells c ty f → c[i]? ≠ some (Value.string s)) : ∀ a, KOf keys L a → a.block ≠ Ob := by
  intro a ha e
  obtain ⟨s, _, hs⟩ := kof_cell hK ha
  obtain ⟨g, off, c, k, s', rfl, hs', rfl⟩ := ha
  have e : g = Ob := e
  subst e
  cases o with
  | cells c ty f => rw [dropCell hO] at hs; exact hn c ty f _ s rfl hs
  | _ => simp [World.cell?, hO] at hs
theorem nilrow_ne {m : Nat} : ∀ (c : Array Value) (ty : TypeId) (f : Nat × Nat) (i : Nat) (s : ByteArray), (Obj.cells (List.replicate m (Value.slice none 0 0)).toArray 22 : Obj) = .cells c ty f → c[i]? ≠ some (Value.string s) := by
  intro c ty f i s e h
  cases e
  simp only [List.getElem?_toArray, List.getElem?_replicate] at h
  split at h <;> cases h
set_option maxHeartbeats 4000000 in
theorem last3 (hm : m = clipI nv) (hN : L.length ≤ 1000000) (hs : ∀ s ∈ L, s.size ≤ 140737488355328) (hK : StrAt w keys L) (hG : GlobOk w)
    (hC : ∃ cs, w.heap[C]? = some (.cells cs 3) ∧ cs.size = L.length ∧ ∀ (k : Nat) s, L[k]? = some s → cs[k]? = some (.int .i64 (shardN s nv : Nat)))
    (hO : w.heap[Ob]? = some (.cells (List.replicate m (.slice none 0 0)).toArray 22)) (hg : 2 ≤ g ∧ g < w.heap.size ∧ g ≠ Ob ∧ g ≠ C) (hgK : ∀ a, KOf keys L a → a.block ≠ g) (hSh : ∀ l, Shun l → ∃ a : Addr, l = .cell a ∧ a.block = g)
    (h0 : gs[0]? = some (G ((base 9).at ⟨T9 keys nv m Ob C L.length, []⟩ [.inRegion ops92 [3, 4], .code blk9, .code end9]) [(base 3).at ⟨T3 keys nv n lg undef, []⟩ [.inRegion ops33 [2, 3, 4, 5, 6, 7, 8, 9, 10], .code .ret]]))
    (hL : Leavers Tryz.prog t gs q) (hP : PastE Shun t) :
    ∃ N last o wF t', runNT Tryz.prog (N + 1) (crowd gs w sl) t = (.ended o wF, t') ∧ runN Tryz.prog N (crowd gs w sl) = .next last ∧ step Tryz.prog last = .ended o wF ∧
      Go.Conc.Good Tryz.prog (fun v W' => v = .bool true ∧ GW w W' (some Ob) ∧ W'.tape = w.tape) last o wF t' := by
  have X := prgC (B := B3 w Ob C) (K := KOf keys L) (.inl rfl) (.inr (.inl rfl))
  have hcw := cwk3 (nv := nv) hG hK hC hO
  have hsh : ∀ l, Shun l → ∃ a : Addr, l = .cell a ∧ ¬ B3 w Ob C a.block ∧ ¬ KOf keys L a := fun l hl => by
    obtain ⟨a, e1, e2⟩ := hSh l hl
    refine ⟨a, e1, ?_, fun hk => hgK a hk e2⟩
    rintro (h | h | h | h | h) <;> omega
  have bw1 := bw_weaken (fun _ _ _ h => dx_of hsh h) (fun _ _ h => h) (stretch9 hm hN hK hG hC hO X (items9 (.inl rfl)) hcw [(base 3).at ⟨T3 keys nv n lg undef, []⟩ [.inRegion ops33 [2, 3, 4, 5, 6, 7, 8, 9, 10], .code .ret]])
  have bw2 : BW Tryz.prog (DX Shun) (fun gg w2 => ∃ fr, gg = G fr [] ∧ LeaveT 3 4 fr (.bool true) ∧ GW w w2 (some Ob)) (G ((base 9).at ⟨T9 keys nv m Ob C L.length, []⟩ [.inRegion ops92 [3, 4], .code blk9, .code end9]) [(base 3).at ⟨T3 keys nv n lg undef, []⟩ [.inRegion ops33 [2, 3, 4, 5, 6, 7, 8, 9, 10], .code .ret]]) w := by
    refine bw_bind bw1 ?_
    rintro gg w2 ⟨fr, rfl, hlv, hcw2, hgw, vs, hvs⟩
    refine bw_step (fun w => ⟨fun e he => by simp at he, rfl⟩) rfl (fun w => leaveT_step Tryz.func9 rfl hlv true _ _ w) (fun d => ?_)
    rw [fin9 (T3 keys nv n lg undef) 16 _ rfl]
    have eT : (T3 keys nv n lg undef).setIfInBounds 16 (.slice (some ⟨Ob, 0, none⟩) m m) = (T3 keys nv n lg (.slice (some ⟨Ob, 0, none⟩) m m)).toList.toArray := rfl
    rw [eT]
    have hx : Inv (scOf (B3 w Ob C) (KOf keys L) false LK NK) Tryz.prog w2.tape ⟨(base 3).at ⟨(T3 keys nv n lg (.slice (some ⟨Ob, 0, none⟩) m m)).toList.toArray, []⟩ [.inRegion ops33 [3, 4, 5, 6, 7, 8, 9, 10], .code .ret], [], w2.at d⟩ :=
      ⟨frOk_base (fun x hx => by
        simp only [List.mem_cons, List.not_mem_nil, or_false] at hx
        rcases hx with rfl | rfl
        · exact item_region (.inl rfl) t33
        · exact trivial) (slots3 (kv_of hK fun a h => h) (.slice _ _ _ (.inr (.inr (.inl rfl)))) rfl) ⟨_, Tryz.func3⟩, by simp, ⟨⟨hcw2.objs, hcw2.fresh⟩, hcw2.kc⟩, rfl⟩
    refine bw_weaken (D := DIn (scOf (B3 w Ob C) (KOf keys L) false LK NK)) (fun _ _ _ h => dx_of hsh h) (fun _ _ h => h) (lift (x := ⟨(base 3).at ⟨(T3 keys nv n lg (.slice (some ⟨Ob, 0, none⟩) m m)).toList.toArray, []⟩ [.inRegion ops33 [3, 4, 5, 6, 7, 8, 9, 10], .code .ret], [], w2.at d⟩) X (base := []) hx (Fin := fun fr wz => LeaveT 3 4 fr (.bool true) ∧ GW w2 wz none) ?_ ?_)
    · intro τ
      have hK2 : StrAt (re w2 τ 0) keys L := strAt_gw (w' := re w2 τ 0) hK ⟨hgw.os, hgw.output, hgw.size, hgw.block⟩ (kof_ne hK hO nilrow_ne)
      have hv2 : RowsR (re w2 τ 0) (.slice (some ⟨Ob, 0, none⟩) m m) (spreadRows L nv) := rows_read (w' := re w2 τ 0) (vs := vs) (base := w.heap.size) ⟨hvs.len, hvs.out, hvs.own, hvs.apart⟩ hm
      obtain ⟨v, wz, fr, ⟨rfl, hb⟩, hst, hfn, hlv⟩ := rest3 (n := n) (lg := lg) hK2 hN hs hv2 (base 3) [c0] rfl rfl rfl
      obtain ⟨N, hN⟩ := hst
      exact ⟨N, fr, wz, hN, leaveT_of Tryz.func3 rfl hfn hlv, ⟨hb.os, hb.output, hb.size, fun k hk _ => hb.block k hk⟩⟩
    · rintro fr wz τ d2 hf _ ⟨h1, h2⟩ d'
      exact ⟨fr, rfl, h1, ⟨h2.os.trans hgw.os, h2.output.trans hgw.output, Nat.le_trans hgw.size h2.size, fun k hk hne => (h2.block k (Nat.lt_of_lt_of_le hk hgw.size) (by simp)).trans (hgw.block k hk hne)⟩⟩
  obtain ⟨M, gs', a', w1, sl', t', q', hr, hsz, h01, ⟨fr, rfl, hlv, hgw⟩, hL1, hP1, htape⟩ := bw_beside (fun w1 t => PastE Shun t ∧ w1.tape = w.tape) (fun w t d h => h) (fun w w' es fn pos t h hD => ⟨h.1.own hD.1, hD.2.trans h.2⟩) (fun w t i fn pos es hi h hm => ⟨h.1.mute hi hm, h.2⟩) bw2 gs w.drawn sl t q h0 hL ⟨hP, rfl⟩
  have hend := fun d => leaveT_end Tryz.func3 rfl (inits_none 3 (by kernel_rfl)) hlv (w1.at d)
  obtain ⟨N, last, o, wF, tF, e1, e2, e3, e4⟩ := end_beside (P := Tryz.prog) (Shun := Shun) (Post := fun v W' => v = .bool true ∧ GW w W' (some Ob) ∧ W'.tape = w.tape) rfl hend (fun d => ⟨rfl, hgw.at d, htape⟩) _ gs' w1.drawn sl' t' q' (Nat.le_refl _) h01 hL1 hP1
  refine ⟨M + N, last, o, wF, tF, ?_, ?_, e3, e4⟩
  · rw [Nat.add_assoc, runNT_add, show crowd gs w sl = crowd gs (w.at w.drawn) sl from rfl, hr]; exact e1
  · rw [runN_add, ← runNT_fst Tryz.prog _ _ t, show crowd gs w sl = crowd gs (w.at w.drawn) sl from rfl, hr]; exact e2
end
end Go.Proofs.YtacimedkchjfnaaGreat
end

section
/-! Spread's begin, in company. -/
namespace Go.Proofs.YtacimedkchjfnaaGreat
set_option linter.unusedSimpArgs false
set_option linter.unusedVariables false
set_option maxRecDepth 100000
open Go.Conc Go.RowKit Go.Conc.Lib Go.ConcR.Gen
open Go.ConcR (KK wgBlock WgAt stA smA rd wr deafBehind_cons deafBehind_one)
open Go.ConcN (WgLive)
theorem cn6 : (Tryz.f6.name == "runtime.NumGoroutine") = false := nm6
theorem cn7 : (Tryz.f7.name == "runtime.NumGoroutine") = false := nm7
theorem cn9 : (Tryz.f9.name == "runtime.NumGoroutine") = false := by kernel_rfl
theorem el26 : Tryz.prog.underlying 26 = some (.slice 22) := by kernel_rfl
theorem made_rep (z : Value) (m : Nat) : madeCells #[z] m = (List.replicate m z).toArray := by
  apply Array.ext
  · simp [madeCells]
  · intro i h1 h2
    simp [madeCells, Nat.mod_one]
theorem run_mk26 (w : World) (n : Nat) (hn : n ≤ 1000000) : (Instr.makeSlice 26 (.int .i64 n) (.int .i64 n)).run Tryz.prog w = .ok (.slice (some ⟨w.heap.size, 0, none⟩) n n) (w.alloc (.cells (List.replicate n (.slice none 0 0)).toArray 22)) := by
  obtain ⟨i, hi, h1, h2, h3⟩ := info_parts inf22
  have := run_make (P := Tryz.prog) w 26 22 i (.slice none 0 0) el26 hi h1 .i64 .i64 n n (by omega) (Int.le_refl _) (by rw [h3]; omega) (by omega)
  simp only [Int.toNat_natCast, h2, Nat.mul_one] at this
  rw [this, ← made_rep]
  rfl
theorem ev_mk26 (w : World) (n : Nat) (hn : n ≤ 1000000) (es : Array Event) : (Instr.makeSlice 26 (.int .i64 n) (.int .i64 n)).events Tryz.prog w es = es := by
  obtain ⟨i, hi, h1, h2, h3⟩ := info_parts inf22
  have wl : IntKind.i64.wrap (n : Int) = n := by rw [IntKind.wrap_i64]; omega
  have n1 : ¬ ((n : Int) < 0) := by omega
  have n2 : ¬ (281474976710656 < (i.bytes : Int) * (n : Int)) := by rw [h3]; omega
  have n4 : ¬ roomBytes < n * 24 := by unfold roomBytes; omega
  have n5 : ¬ ((n : Int) < n) := by omega
  have hr : (askRoom (n * i.bytes)) = pure () := by unfold askRoom; rw [if_neg (by rw [h3]; exact n4)]
  by_cases hn0 : n * i.size = 0
  · simp [Instr.makeSlice, run_underlying el26, asInt, asIntOf, typeInfo, hi, sizeOf, wl, n1, n2, n5, hr, hn0, newRow]
  · simp [Instr.makeSlice, run_underlying el26, asInt, asIntOf, typeInfo, hi, sizeOf, zeroValue, h1, wl, n1, n2, n5, hr, hn0, newRow]
/-- Spread's slots ahead of its call of shards. -/
def T9b (keys : Value) (nv : Int) (m Ob : Nat) : Array Value :=
  #[keys, .int .i64 nv, undef, undef, .slice none 0 0, .slice (some ⟨Ob, 0, none⟩) m m, undef, undef, .int .i64 nv, .int .i64 m, .slice (some ⟨Ob, 0, none⟩) m m, keys, .int .i64 nv, undef,
    undef, undef, undef, undef, undef, undef, undef, undef, undef, undef, undef, undef, undef, undef, undef, undef, undef, undef, undef, undef, undef]
/-- What stands when shards is called. -/
structure PO (W : World) (m : Nat) (w : World) : Prop where
  bl : Below W.heap.size W w
  size : w.heap.size = W.heap.size + 1
  o : w.heap[W.heap.size]? = some (.cells (List.replicate m (.slice none 0 0)).toArray 22)
section
variable {D : Nat → World → World → Array Event → Prop} {W : World} {nv : Int} {keys : Value} {cs₀ : List Frame} {Stop : Nat → Goroutine → World → Prop}
set_option maxHeartbeats 8000000 in
theorem begin9 (T : GT AtRel D) (hDa : ∀ w o, D 0 w (w.alloc o) #[]) {n : Nat} (hq : ∀ w, PO W (clipI nv) w → GD Tryz.prog true AtRel D Stop n 0
      (G ((base 16).at ⟨#[keys, .int .i64 nv, undef, undef, undef, undef, undef, undef, undef, undef, undef, undef, undef, undef, undef, undef, undef, undef, undef, undef, undef, undef, undef, undef, undef, undef, undef, undef, undef, undef, undef, undef, undef, undef, undef, undef], []⟩ [.code (Tryz.f16.body.getD .skip)])
        ((base 9).at ⟨T9b keys nv (clipI nv) W.heap.size, []⟩ [.inRegion ops92 [2, 3, 4], .code blk9, .code end9] :: cs₀)) w) :
    GD Tryz.prog true AtRel D Stop (n + 80) 0 (G ((base 9).at ⟨#[keys, .int .i64 nv, undef, undef, undef, undef, undef, undef, undef, undef, undef, undef, undef, undef, undef, undef, undef, undef, undef, undef, undef, undef, undef, undef, undef, undef, undef, undef, undef, undef, undef, undef, undef, undef, undef], []⟩ [.code (Tryz.f9.body.getD .skip)]) cs₀) W := by
  have hcb := clipI_bounds nv
  simp only [ops92, blk9, end9, body9, T9b, Tryz.f9, Option.getD_some] at hq ⊢
  with_reducible refine gd_c T (G_running _ _) (fun _ => stepG_seq) ?_
  ((with_reducible refine gd_c T (G_running _ _) (fun _ => stepG_region) ?_); simp only [List.size_toArray, List.length_cons, List.length_nil, Nat.reduceAdd, Nat.zero_add, List.range, List.range.loop])
  (co_applyP gd_val T rfl rfl (by k_ne) ?_ ?_ ?_; (focus (intro _ K hK; go_simp; (try w_num); exact hK)); (focus (intro _; simp [go_sem, *]; done)); (try walk_nrm))
  with_reducible refine gd_c T (G_running _ _) (fun _ => stepG_region_end) ?_
  with_reducible refine gd_c T (G_running _ _) (fun _ => stepG_seq) ?_
  ((with_reducible refine gd_c T (G_running _ _) (fun _ => stepG_region) ?_); simp only [List.size_toArray, List.length_cons, List.length_nil, Nat.reduceAdd, Nat.zero_add, List.range, List.range.loop])
  (co_applyP gd_val T rfl rfl (by k_ne) ?_ ?_ ?_; (focus (intro _ K hK; go_simp; (try w_num); exact hK)); (focus (intro _; simp [go_sem, *]; done)); (try walk_nrm))
  (refine gd_call T rfl rfl (by k_ne) rfl Tryz.func15 cn15 rfl ?_; walk_nrmf Tryz.f15)
  refine GD.mono (n := (n + 30) + 30) (clip_walk (n := n + 30) T nv ?_) (by omega)
  generalize hm : clipI nv = m at *
  walk_nrm
  refine gd_op rfl rfl (by k_ne) (fun w₁ h₁ K hK => ?_)
  obtain ⟨d2, rfl⟩ := h₁
  have hr := run_mk26 (W.at d2) m (by omega)
  have he := ev_mk26 (W.at d2) m (by omega)
  go_simp
  refine hK _ _ (by rw [listed_nil (by simp [go_sem, he])]; exact hDa _ _) (deaf_none (listed_nil (by simp [go_sem, he]))) ?_
  clear hK K hr he
  have har : Array.replicate m (Value.slice none 0 0) = (List.replicate m (Value.slice none 0 0)).toArray := by simp
  rw [har]
  have hp : PO W m ((W.at d2).alloc (.cells (List.replicate m (.slice none 0 0)).toArray 22)) := ⟨(below_at (Below.refl _ W) d2).alloc (Nat.le_refl _) _, size_alloc _ _, get_alloc_new (W.at d2) _⟩
  generalize (W.at d2).alloc (.cells (List.replicate m (.slice none 0 0)).toArray 22) = w2 at hp ⊢
  (try walk_nrm)
  (co_applyP gd_val T rfl rfl (by k_ne) ?_ ?_ ?_; (focus (intro _ K hK; go_simp; (try w_num); exact hK)); (focus (intro _; simp [go_sem, *]; done)); (try walk_nrm))
  with_reducible refine gd_c T (G_running _ _) (fun _ => stepG_region_end) ?_
  with_reducible refine gd_c T (G_running _ _) (fun _ => stepG_seq) ?_
  with_reducible refine gd_c T (G_running _ _) (fun _ => stepG_seq) ?_
  ((with_reducible refine gd_c T (G_running _ _) (fun _ => stepG_region) ?_); simp only [List.size_toArray, List.length_cons, List.length_nil, Nat.reduceAdd, Nat.zero_add, List.range, List.range.loop])
  (co_applyP gd_val T rfl rfl (by k_ne) ?_ ?_ ?_; (focus (intro _ K hK; go_simp; (try w_num); exact hK)); (focus (intro _; simp [go_sem, *]; done)); (try walk_nrm))
  (co_applyP gd_val T rfl rfl (by k_ne) ?_ ?_ ?_; (focus (intro _ K hK; go_simp; (try w_num); exact hK)); (focus (intro _; simp [go_sem, *]; done)); (try walk_nrm))
  (refine gd_call T rfl rfl (by k_ne) rfl Tryz.func16 cn16 rfl ?_; walk_nrmf Tryz.f16)
  have hq := hq w2 hp
  simp only [Tryz.f16, Option.getD_some] at hq
  exact hq.mono (by omega)
end
end Go.Proofs.YtacimedkchjfnaaGreat
end

section
/-! Ahead of shards: goroutine 0 by words that list nothing, and by lifted calls that say nothing. -/
namespace Go.Proofs.YtacimedkchjfnaaGreat
set_option linter.unusedSimpArgs false
set_option linter.unusedVariables false
set_option maxRecDepth 20000
open Go.Conc Go.RowKit
open Go.ConcR (deafBehind_cons deafBehind_one)

/-- A step that lists nothing. -/
def DG (d : Nat) (w w' : World) (es : Array Event) : Prop := es = #[] ∧ w.heap.size ≤ w'.heap.size ∧ w'.tape = w.tape
theorem tG : GT AtRel DG := ⟨atRel_trans, fun d w => ⟨rfl, Nat.le_refl _, rfl⟩⟩
theorem dg_deaf {d : Nat} {w w' : World} {es : Array Event} (h : DG d w w' es) : deafBehind d es = d := deaf_none h.1
/-- .. that what came of before bears. -/
def DL (Shun : Loc → Prop) (w w' : World) (es : Array Event) : Prop := (∀ e ∈ es, EvL Shun w'.heap.size e) ∧ w.heap.size ≤ w'.heap.size ∧ w'.tape = w.tape
theorem dl_of_dg {Shun : Loc → Prop} {w w' : World} {es : Array Event} (h : DG 0 w w' es) : DL Shun w w' es := ⟨fun e he => by rw [h.1] at he; simp at he, h.2⟩
theorem dx_of_dg {Shun : Loc → Prop} {w w' : World} {es : Array Event} (h : DG 0 w w' es) : DX Shun w w' es := ⟨fun e he => by rw [h.1] at he; simp at he, h.2.2⟩
theorem dx_of_dl0 {w w' : World} {es : Array Event} (h : w'.tape = w.tape) : DX (fun _ => False) w w' es := ⟨fun _ _ _ _ h => h, h⟩
/-- What says nothing and touches no shunned place. -/
theorem evL_of {S : Sc} {Shun : Loc → Prop} (hq : S.q = true) (hSh : ∀ l, Shun l → ∃ a : Addr, l = .cell a ∧ ¬ S.b a.block ∧ ¬ S.k a) {B : Nat} {e : Event} (h : EvK S B e) : EvL Shun B e := by
  refine ⟨fun b hb hs => ?_, ?_⟩
  · obtain ⟨a, e1, e2, e3⟩ := hSh _ hs
    rcases evK_touch h hb with ⟨ad, h1, h2, _⟩ | h1
    · rw [e1] at h1
      cases h1
      exact absurd h2 (fun x => x.elim e2 e3)
    · exact absurd e1 (h1 a)
  · rcases h with h | ⟨a, _, hlt, rfl⟩
    · obtain ⟨loc, wr, sy⟩ := e
      have hlow := h.low
      cases loc with
      | mark m =>
        have hm := h.quiet hq m rfl
        cases m <;> first | exact hm.elim | exact ⟨by simp, by simp, trivial⟩
      | obj r => cases wr <;> cases sy <;> exact ⟨by simp, by simp, hlow⟩
      | _ => exact ⟨by simp, by simp, hlow⟩
    · exact ⟨by simp, by simp, hlt⟩
theorem dl_of {S : Sc} {Shun : Loc → Prop} (hq : S.q = true) (hSh : ∀ l, Shun l → ∃ a : Addr, l = .cell a ∧ ¬ S.b a.block ∧ ¬ S.k a) {w w' : World} {es : Array Event} (h : DIn S w w' es) : DL Shun w w' es :=
  ⟨fun e he => evL_of hq hSh (h.1 e he), h.2.1.size, h.2.2⟩
/-- The tape stands. -/
theorem bw_tape {P : Program} {D : World → World → Array Event → Prop} {Stop : Goroutine → World → Prop} (hD : ∀ w w' es, D w w' es → w'.tape = w.tape) {g : Goroutine} {w : World} (h : BW P D Stop g w) : BW P D (fun g w2 => Stop g w2 ∧ w2.tape = w.tape) g w := by
  have key : ∀ {g : Goroutine} {w0 : World}, BW P D Stop g w0 → ∀ τ, w0.tape = τ → BW P D (fun g w2 => Stop g w2 ∧ w2.tape = τ) g w0 := by
    intro g w0 h
    induction h with
    | stop h => exact fun τ e => .stop fun d => ⟨h d, e⟩
    | @step g w0 hs g' w' es h hd _ ih => exact fun τ e => .step hs g' w' es h hd fun d => ih d τ ((hD _ _ _ (hd d)).trans e)
  exact key h _ rfl
/-- Of the frames of the calls: the blocks of their own, and what all have. -/
def B0w (H : Nat) (b : Nat) : Prop := b = 0 ∨ b = 1 ∨ H ≤ b
theorem cwk0 {w : World} {keys : Value} {L : List ByteArray} {q : Bool} {LL : List Nat} {NN : List (List Nat)} (hG : GlobOk w) (hK : StrAt w keys L) : CWK (scOf (B0w w.heap.size) (KOf keys L) q LL NN) w where
  objs := by
    rintro r o (rfl | rfl | hr) ho
    · exact hG.cl 0 (.inl rfl) o ho _
    · exact hG.cl 1 (.inr rfl) o ho _
    · rw [Array.getElem?_eq_none hr] at ho; cases ho
  fresh := fun r hr => .inr (.inr hr)
  kc := by
    intro a ha
    obtain ⟨s, _, hs⟩ := kof_cell hK ha
    refine ⟨?_, s, hs⟩
    obtain ⟨g, off, c, k, s', rfl, hs', rfl⟩ := ha
    rintro (h | h | h)
    · exact hG.txt _ (.inl h) _ _ hs
    · exact hG.txt _ (.inr h) _ _ hs
    · have := lt_of_cell hs
      omega
theorem slots_undef {S : Sc} {f : Nat} : ∀ (n k : Nat), SlotsOk S f k (List.replicate n undef)
  | 0, _ => trivial
  | n + 1, k => ⟨slot_cl cl_undef, slots_undef n (k + 1)⟩
/-- A call, lifted. -/
theorem call_bw {S : Sc} (X : PrgC S Tryz.prog) {f : FuncId} {fn : Func} {c : Code} {t : Tmp} (hf : Tryz.prog.funcs[f]? = some fn) (hr : fn.results = #[.tmp t]) {args : Array Value} (slots : List Value)
    (he : Frame.enter Tryz.prog f args .normal = (base f).at ⟨slots.toArray, []⟩ [.code c]) (hit : ItemOk S Tryz.prog f (.code c)) (hsl : SlotsOk S f 0 slots) {w : World} (hcw : CWK S w) {R : Value → World → Prop}
    (hcalls : ∀ τ, Calls Tryz.prog f args (re w τ 0) fun e w' => ∃ v, e = .returned v ∧ R v w') (base0 : List Frame) :
    BW Tryz.prog (DIn S) (fun gg w2 => ∃ fr v τ d, gg = G fr base0 ∧ LeaveT f t fr v ∧ CWK S w2 ∧ R v (re w2 τ d)) (G ((base f).at ⟨slots.toArray, []⟩ [.code c]) base0) w := by
  have hx : Inv S Tryz.prog w.tape ⟨(base f).at ⟨slots.toArray, []⟩ [.code c], [], w⟩ := ⟨frOk_base (fun x hx => by
    simp only [List.mem_cons, List.not_mem_nil, or_false] at hx
    subst hx
    exact hit) hsl ⟨_, hf⟩, by simp, hcw, rfl⟩
  refine lift (x := ⟨(base f).at ⟨slots.toArray, []⟩ [.code c], [], w⟩) X (base := base0) hx (Fin := fun fr wz => ∃ v, LeaveT f t fr v ∧ R v wz) ?_ ?_
  · intro τ
    obtain ⟨e, w', fr, ⟨v, rfl, hR⟩, hc, hfn, hlv⟩ := hcalls τ [c0]
    rw [he] at hc
    obtain ⟨N, hN⟩ := hc
    exact ⟨N, fr, w', hN, v, leaveT_of hf hr hfn hlv, hR⟩
  · rintro fr wz τ d hfr hcwz ⟨v, h1, h2⟩ d'
    exact ⟨fr, v, τ, d, rfl, h1, ⟨⟨hcwz.objs, hcwz.fresh⟩, hcwz.kc⟩, h2⟩
theorem p6 : codeB Tryz.prog LP [] 6 (Tryz.f6.body.getD .skip) = true := by kernel_rfl
theorem p7 : codeB Tryz.prog LK NK 7 (Tryz.f7.body.getD .skip) = true := by kernel_rfl
theorem at_self {w w2 : World} (h1 : w2.heap = w.heap) (h2 : w2.os = w.os) (h3 : w2.output = w.output) (h4 : w2.tape = w.tape) : w2 = w.at w2.drawn := by
  obtain ⟨a, b, c, d, e⟩ := w
  obtain ⟨a', b', c', d', e'⟩ := w2
  simp_all [World.at]
set_option maxHeartbeats 1000000 in
/-- Long's call. -/
theorem long_bw {w : World} {keys : Value} {L : List ByteArray} {Shun : Loc → Prop} (hK : StrAt w keys L) (hG : GlobOk w) (hSh : ∀ l, Shun l → ∃ a : Addr, l = .cell a ∧ ¬ B0w w.heap.size a.block ∧ ¬ KOf keys L a) (base0 : List Frame) :
    BW Tryz.prog (DL Shun) (fun gg w2 => ∃ fr d, gg = G fr base0 ∧ LeaveT 6 2 fr (.int .i64 (IntKind.i64.wrap (longL L : Nat))) ∧ w2 = w.at d)
      (G ((base 6).at ⟨#[keys, undef, undef, undef, undef, undef, undef, undef, undef, undef, undef, undef, undef, undef, undef, undef, undef, undef, undef, undef], []⟩ [.code (Tryz.f6.body.getD .skip)]) base0) w := by
  have X := prgQ (B := B0w w.heap.size) (K := KOf keys L) (.inl rfl) (.inr (.inl rfl))
  have h := call_bw X Tryz.func6 rfl (args := #[keys]) [keys, undef, undef, undef, undef, undef, undef, undef, undef, undef, undef, undef, undef, undef, undef, undef, undef, undef, undef, undef] (c := Tryz.f6.body.getD .skip) (by simp [Frame.enter, Frame.at, Tryz.func6, base, Tryz.f6]) (item_code (.inl rfl) p6)
    ⟨slot_k (kv_of hK fun a h => h) (by show dK 6 0 = true; decide), slots_undef 19 1⟩ (cwk0 hG hK)
    (R := fun v wz => v = .int .i64 (IntKind.i64.wrap (longL L : Nat)) ∧ wz.heap = w.heap ∧ wz.os = w.os ∧ wz.output = w.output)
    (fun τ => (long_calls (re w τ 0) keys L hK).mono fun e w' ⟨h1, h2⟩ => ⟨_, h1, rfl, by rw [← h2]; exact ⟨rfl, rfl, rfl⟩⟩) base0
  refine bw_weaken (fun _ _ _ h => dl_of rfl hSh h) (fun _ _ h => h) (bw_weaken (fun _ _ _ h => h) ?_ (bw_tape (fun _ _ _ h => h.2.2) h))
  rintro gg w2 ⟨⟨fr, v, τ, d, rfl, h1, h2, rfl, h3, h4, h5⟩, h6⟩
  exact ⟨fr, w2.drawn, rfl, h1, at_self h3 h4 h5 h6⟩
set_option maxHeartbeats 1000000 in
/-- known's call. -/
theorem known_bw {w : World} {B : Nat → Prop} {K : Addr → Prop} (h0 : B 0) (h1 : B 1) (hcw : CWK (scOf B K false LK NK) w) (base0 : List Frame) :
    BW Tryz.prog (DX fun _ => False) (fun gg w2 => ∃ fr, gg = G fr base0 ∧ LeaveT 7 0 fr (.bool true) ∧ GW w w2 none)
      (G ((base 7).at ⟨#[undef, undef, undef, undef, undef, undef, undef, undef, undef, undef, undef, undef], []⟩ [.code (Tryz.f7.body.getD .skip)]) base0) w := by
  have X := prgC (B := B) (K := K) h0 h1
  have h := call_bw X Tryz.func7 rfl (args := #[]) [undef, undef, undef, undef, undef, undef, undef, undef, undef, undef, undef, undef] (c := Tryz.f7.body.getD .skip) (by simp [Frame.enter, Frame.at, Tryz.func7, base, Tryz.f7]; rfl) (item_code h0 p7)
    (slots_undef 12 0) hcw (R := fun v wz => v = .bool true ∧ GW w wz none)
    (fun τ => (known_calls (re w τ 0)).mono fun e w' ⟨h1, h2⟩ => ⟨_, h1, rfl, h2.os, h2.output, h2.size, fun k hk _ => h2.block k hk⟩) base0
  refine bw_weaken (fun _ _ _ h => dx_of_dl0 h.2.2) ?_ h
  rintro gg w2 ⟨fr, v, τ, d, rfl, h1, h2, rfl, h3⟩
  exact ⟨fr, rfl, h1, h3.os, h3.output, h3.size, h3.block⟩
end Go.Proofs.YtacimedkchjfnaaGreat
end

section
/-! HashSpreads' begin, in company. -/
namespace Go.Proofs.YtacimedkchjfnaaGreat
set_option linter.unusedSimpArgs false
set_option linter.unusedVariables false
set_option maxRecDepth 100000
open Go.Conc Go.RowKit
theorem bw_gd {P : Program} {D : World → World → Array Event → Prop} {Stop : Goroutine → World → Prop} (hD : ∀ w w' es, DG 0 w w' es → D w w' es) {n : Nat} {g : Goroutine} {w : World}
    (h : GD P true AtRel DG (fun _ g w => BW P D Stop g w) n 0 g w) : BW P D Stop g w :=
  bw_bind (bw_weaken hD (fun _ _ h => h) (bw_of_gd (fun d w w' es h => dg_deaf h) h)) fun g w h => h
section
variable {W : World} {keys : Value} {L : List ByteArray} {nv : Int} {A : Option Addr} {c : Nat}
set_option maxHeartbeats 8000000 in
theorem begin3_many (hA : keys = .slice A L.length c) (hn : 100 < L.length) (hG : GlobOk W) (hK : StrAt W keys L) :
    BW Tryz.prog (DX fun _ => False) (fun gg w2 => ∃ fr, gg = G fr [] ∧ LeaveT 3 4 fr (.bool true) ∧ GW W w2 none) (G ((base 3).at ⟨#[keys, .int .i64 nv, undef, undef, undef, undef, undef, undef, undef, undef, undef, undef, undef, undef, undef, undef, undef, undef, undef, undef, undef, undef, undef, undef], []⟩ [.code body3]) []) W := by
  have T := tG
  have h1 : ((100 : Int) < (L.length : Int)) = True := by simp; omega
  have h2 : (100 < L.length) = True := by simp; omega
  subst hA
  simp only [body3, Tryz.f3, Option.getD_some]
  refine bw_gd (n := 60) (fun _ _ _ h => dx_of_dg h) ?_
  with_reducible refine gd_c T (G_running _ _) (fun _ => stepG_seq) ?_
  ((with_reducible refine gd_c T (G_running _ _) (fun _ => stepG_region) ?_); simp only [List.size_toArray, List.length_cons, List.length_nil, Nat.reduceAdd, Nat.zero_add, List.range, List.range.loop])
  (co_applyP gd_val T rfl rfl (by k_ne) ?_ ?_ ?_; (focus (intro _ K hK; go_simp; (try w_num); exact hK)); (focus (intro _; simp [go_sem, *]; done)); (try walk_nrm))
  with_reducible refine gd_c T (G_running _ _) (fun _ => stepG_region_end) ?_
  with_reducible refine gd_c T (G_running _ _) (fun _ => stepG_seq) ?_
  with_reducible refine gd_c T (G_running _ _) (fun _ => stepG_seq) ?_
  ((with_reducible refine gd_c T (G_running _ _) (fun _ => stepG_region) ?_); simp only [List.size_toArray, List.length_cons, List.length_nil, Nat.reduceAdd, Nat.zero_add, List.range, List.range.loop])
  (co_applyP gd_val T rfl rfl (by k_ne) ?_ ?_ ?_; (focus (intro _ K hK; go_simp; (try w_num); exact hK)); (focus (intro _; simp [go_sem, *]; done)); (try walk_nrm))
  (co_applyP gd_val T rfl rfl (by k_ne) ?_ ?_ ?_; (focus (intro _ K hK; go_simp; (try w_num); exact hK)); (focus (intro _; simp [go_sem, *]; done)); (try walk_nrm))
  (co_applyP gd_val T rfl rfl (by k_ne) ?_ ?_ ?_; (focus (intro _ K hK; go_simp; (try w_num); exact hK)); (focus (intro _; simp [go_sem, *]; done)); (try walk_nrm))
  (co_applyP gd_val T rfl rfl (by k_ne) ?_ ?_ ?_; (focus (intro _ K hK; go_simp; (try w_num); exact hK)); (focus (intro _; simp [go_sem, *]; done)); (try walk_nrm))
  (refine gd_c T rfl (fun _ => stepG_unwanted rfl rfl) ?_; (try walk_nrm))
  (refine gd_c T rfl (fun _ => stepG_unwanted rfl rfl) ?_; (try walk_nrm))
  (refine gd_c T rfl (fun _ => stepG_unwanted rfl rfl) ?_; (try walk_nrm))
  (co_applyP gd_val T rfl rfl (by k_ne) ?_ ?_ ?_; (focus (intro _ K hK; go_simp; (try w_num); exact hK)); (focus (intro _; simp [go_sem, *]; done)); (try walk_nrm))
  with_reducible refine gd_c T (G_running _ _) (fun _ => stepG_region_end) ?_
  (refine gd_c T rfl (fun _ => stepG_cond (t := true) rfl) ?_; simp only [if_true, if_false, Bool.false_eq_true, ↓reduceIte])
  with_reducible refine gd_c T (G_running _ _) (fun _ => stepG_seq) ?_
  ((with_reducible refine gd_c T (G_running _ _) (fun _ => stepG_region) ?_); simp only [List.size_toArray, List.length_cons, List.length_nil, Nat.reduceAdd, Nat.zero_add, List.range, List.range.loop])
  (refine gd_call T rfl rfl (by k_ne) rfl Tryz.func7 cn7 rfl ?_; walk_nrmf Tryz.f7)
  refine GD.stop fun w₁ h₁ => ?_
  obtain ⟨d1, rfl⟩ := h₁
  have hb := known_bw (B := B0w W.heap.size) (K := KOf (.slice A L.length c) L) (w := W.at d1) (.inl rfl) (.inr (.inl rfl)) (cwk0 (w := W.at d1) ⟨hG.two, hG.cl, hG.txt⟩ hK)
  simp only [Tryz.f7, Option.getD_some] at hb
  refine bw_bind (hb _) ?_
  rintro gg w2 ⟨fr, rfl, hlv, hgw⟩
  refine bw_step (fun w => ⟨fun e he => by simp at he, rfl⟩) rfl (fun w => leaveT_step Tryz.func7 rfl hlv true _ _ w) (fun d => ?_)
  rw [Frame.finish_at]
  walk_nrm
  refine bw_gd (n := 20) (fun _ _ _ h => dx_of_dg h) ?_
  (co_applyP gd_val T rfl rfl (by k_ne) ?_ ?_ ?_; (focus (intro _ K hK; go_simp; (try w_num); exact hK)); (focus (intro _; simp [go_sem, *]; done)); (try walk_nrm))
  with_reducible refine gd_c T (G_running _ _) (fun _ => stepG_region_end) ?_
  with_reducible refine gd_c T (G_running _ _) (fun _ => stepG_ret') ?_
  refine GD.stop fun w₁ h₁ => ?_
  obtain ⟨d1, rfl⟩ := h₁
  exact .stop fun d => ⟨_, rfl, ⟨rfl, rfl, rfl, rfl, rfl⟩, hgw.os, hgw.output, hgw.size, hgw.block⟩
set_option maxHeartbeats 8000000 in
theorem begin3_long (hA : keys = .slice A L.length c) (hn : ¬ 100 < L.length) (hl : 1000 < IntKind.i64.wrap (longL L : Nat)) (hG : GlobOk W) (hK : StrAt W keys L) :
    BW Tryz.prog (DX fun _ => False) (fun gg w2 => ∃ fr, gg = G fr [] ∧ LeaveT 3 4 fr (.bool true) ∧ GW W w2 none) (G ((base 3).at ⟨#[keys, .int .i64 nv, undef, undef, undef, undef, undef, undef, undef, undef, undef, undef, undef, undef, undef, undef, undef, undef, undef, undef, undef, undef, undef, undef], []⟩ [.code body3]) []) W := by
  have T := tG
  have h1 : ((100 : Int) < (L.length : Int)) = False := by simp; omega
  have h2 : (100 < L.length) = False := by simp; omega
  have h3 : ((1000 : Int) < IntKind.i64.wrap (longL L : Nat)) = True := by simpa using hl
  generalize hlg : IntKind.i64.wrap (longL L : Nat) = lg at *
  subst hA
  simp only [body3, Tryz.f3, Option.getD_some]
  refine bw_gd (n := 60) (fun _ _ _ h => dx_of_dg h) ?_
  with_reducible refine gd_c T (G_running _ _) (fun _ => stepG_seq) ?_
  ((with_reducible refine gd_c T (G_running _ _) (fun _ => stepG_region) ?_); simp only [List.size_toArray, List.length_cons, List.length_nil, Nat.reduceAdd, Nat.zero_add, List.range, List.range.loop])
  (co_applyP gd_val T rfl rfl (by k_ne) ?_ ?_ ?_; (focus (intro _ K hK; go_simp; (try w_num); exact hK)); (focus (intro _; simp [go_sem, *]; done)); (try walk_nrm))
  with_reducible refine gd_c T (G_running _ _) (fun _ => stepG_region_end) ?_
  with_reducible refine gd_c T (G_running _ _) (fun _ => stepG_seq) ?_
  with_reducible refine gd_c T (G_running _ _) (fun _ => stepG_seq) ?_
  ((with_reducible refine gd_c T (G_running _ _) (fun _ => stepG_region) ?_); simp only [List.size_toArray, List.length_cons, List.length_nil, Nat.reduceAdd, Nat.zero_add, List.range, List.range.loop])
  (co_applyP gd_val T rfl rfl (by k_ne) ?_ ?_ ?_; (focus (intro _ K hK; go_simp; (try w_num); exact hK)); (focus (intro _; simp [go_sem, *]; done)); (try walk_nrm))
  (co_applyP gd_val T rfl rfl (by k_ne) ?_ ?_ ?_; (focus (intro _ K hK; go_simp; (try w_num); exact hK)); (focus (intro _; simp [go_sem, *]; done)); (try walk_nrm))
  (co_applyP gd_val T rfl rfl (by k_ne) ?_ ?_ ?_; (focus (intro _ K hK; go_simp; (try w_num); exact hK)); (focus (intro _; simp [go_sem, *]; done)); (try walk_nrm))
  (co_applyP gd_val T rfl rfl (by k_ne) ?_ ?_ ?_; (focus (intro _ K hK; go_simp; (try w_num); exact hK)); (focus (intro _; simp [go_sem, *]; done)); (try walk_nrm))
  (co_applyP gd_val T rfl rfl (by k_ne) ?_ ?_ ?_; (focus (intro _ K hK; go_simp; (try w_num); exact hK)); (focus (intro _; simp [go_sem, *]; done)); (try walk_nrm))
  (refine gd_call T rfl rfl (by k_ne) rfl Tryz.func6 cn6 rfl ?_; walk_nrmf Tryz.f6)
  refine GD.stop fun w₁ h₁ => ?_
  obtain ⟨d1, rfl⟩ := h₁
  have hb := fun base0 => long_bw (Shun := fun _ => False) (w := W.at d1) hK ⟨hG.two, hG.cl, hG.txt⟩ (fun l h => h.elim) base0
  rw [hlg] at hb
  simp only [Tryz.f6, Option.getD_some] at hb
  refine bw_bind (bw_weaken (fun _ _ _ h => dx_of_dl0 h.2.2) (fun _ _ h => h) (hb _)) ?_
  rintro gg w2 ⟨fr, d2, rfl, hlv, rfl⟩
  refine bw_step (fun w => ⟨fun e he => by simp at he, rfl⟩) rfl (fun w => leaveT_step Tryz.func6 rfl hlv true _ _ w) (fun d => ?_)
  rw [Frame.finish_at]
  walk_nrm
  refine bw_gd (n := 60) (fun _ _ _ h => dx_of_dg h) ?_
  (co_applyP gd_val T rfl rfl (by k_ne) ?_ ?_ ?_; (focus (intro _ K hK; go_simp; (try w_num); exact hK)); (focus (intro _; simp [go_sem, *]; done)); (try walk_nrm))
  (co_applyP gd_val T rfl rfl (by k_ne) ?_ ?_ ?_; (focus (intro _ K hK; go_simp; (try w_num); exact hK)); (focus (intro _; simp [go_sem, *]; done)); (try walk_nrm))
  with_reducible refine gd_c T (G_running _ _) (fun _ => stepG_region_end) ?_
  (refine gd_c T rfl (fun _ => stepG_cond (t := true) rfl) ?_; simp only [if_true, if_false, Bool.false_eq_true, ↓reduceIte])
  with_reducible refine gd_c T (G_running _ _) (fun _ => stepG_seq) ?_
  ((with_reducible refine gd_c T (G_running _ _) (fun _ => stepG_region) ?_); simp only [List.size_toArray, List.length_cons, List.length_nil, Nat.reduceAdd, Nat.zero_add, List.range, List.range.loop])
  (refine gd_call T rfl rfl (by k_ne) rfl Tryz.func7 cn7 rfl ?_; walk_nrmf Tryz.f7)
  refine GD.stop fun w₁ h₁ => ?_
  obtain ⟨d1, rfl⟩ := h₁
  have hb := known_bw (B := B0w W.heap.size) (K := KOf (.slice A L.length c) L) (w := W.at d1) (.inl rfl) (.inr (.inl rfl)) (cwk0 (w := W.at d1) ⟨hG.two, hG.cl, hG.txt⟩ hK)
  simp only [Tryz.f7, Option.getD_some] at hb
  refine bw_bind (hb _) ?_
  rintro gg w2 ⟨fr, rfl, hlv, hgw⟩
  refine bw_step (fun w => ⟨fun e he => by simp at he, rfl⟩) rfl (fun w => leaveT_step Tryz.func7 rfl hlv true _ _ w) (fun d => ?_)
  rw [Frame.finish_at]
  walk_nrm
  refine bw_gd (n := 20) (fun _ _ _ h => dx_of_dg h) ?_
  (co_applyP gd_val T rfl rfl (by k_ne) ?_ ?_ ?_; (focus (intro _ K hK; go_simp; (try w_num); exact hK)); (focus (intro _; simp [go_sem, *]; done)); (try walk_nrm))
  with_reducible refine gd_c T (G_running _ _) (fun _ => stepG_region_end) ?_
  with_reducible refine gd_c T (G_running _ _) (fun _ => stepG_ret') ?_
  refine GD.stop fun w₁ h₁ => ?_
  obtain ⟨d1, rfl⟩ := h₁
  exact .stop fun d => ⟨_, rfl, ⟨rfl, rfl, rfl, rfl, rfl⟩, hgw.os, hgw.output, hgw.size, hgw.block⟩
/-- What stands where shards begins. -/
def Go3 (W : World) (keys : Value) (nv lg : Int) (n : Nat) (gg : Goroutine) (w2 : World) : Prop := PO W (clipI nv) w2 ∧
  gg = G ((base 16).at ⟨#[keys, .int .i64 nv, undef, undef, undef, undef, undef, undef, undef, undef, undef, undef, undef, undef, undef, undef, undef, undef, undef, undef, undef, undef, undef, undef, undef, undef, undef, undef, undef, undef, undef, undef, undef, undef, undef, undef], []⟩ [.code (Tryz.f16.body.getD .skip)]) [(base 9).at ⟨T9b keys nv (clipI nv) W.heap.size, []⟩ [.inRegion ops92 [2, 3, 4], .code blk9, .code end9], (base 3).at ⟨T3 keys nv n lg undef, []⟩ [.inRegion ops33 [2, 3, 4, 5, 6, 7, 8, 9, 10], .code .ret]]
set_option maxHeartbeats 8000000 in
theorem begin3_go {Shun : Loc → Prop} (hA : keys = .slice A L.length c) (hn : ¬ 100 < L.length) (hl : ¬ 1000 < IntKind.i64.wrap (longL L : Nat)) (hG : GlobOk W) (hK : StrAt W keys L)
    (hSh : ∀ l, Shun l → ∃ a : Addr, l = .cell a ∧ ¬ B0w W.heap.size a.block ∧ ¬ KOf keys L a) :
    BW Tryz.prog (DL Shun) (Go3 W keys nv (IntKind.i64.wrap (longL L : Nat)) L.length) (G ((base 3).at ⟨#[keys, .int .i64 nv, undef, undef, undef, undef, undef, undef, undef, undef, undef, undef, undef, undef, undef, undef, undef, undef, undef, undef, undef, undef, undef, undef], []⟩ [.code body3]) []) W := by
  have T := tG
  have h9 := fun (d : Nat) (lg : Int) => begin9 (D := DG) (W := W.at d) (nv := nv) (keys := keys) (cs₀ := [(base 3).at ⟨T3 keys nv L.length lg undef, []⟩ [.inRegion ops33 [2, 3, 4, 5, 6, 7, 8, 9, 10], .code .ret]]) (n := 0) (Stop := fun _ g w => BW Tryz.prog (DL Shun) (Go3 W keys nv lg L.length) g w) tG (fun w o => ⟨rfl, by rw [size_alloc]; omega, rfl⟩)
    (fun w hp => GD.stop fun w₁ h₁ => by
      obtain ⟨d2, rfl⟩ := h₁
      exact .stop fun d3 => ⟨⟨below_at (Below.trans (below_at (Below.refl _ W) d) hp.bl) _, hp.size, hp.o⟩, rfl⟩)
  have h1 : ((100 : Int) < (L.length : Int)) = False := by simp; omega
  have h2 : (100 < L.length) = False := by simp; omega
  have h3 : ((1000 : Int) < IntKind.i64.wrap (longL L : Nat)) = False := by simpa using hl
  generalize hlg : IntKind.i64.wrap (longL L : Nat) = lg at *
  subst hA
  simp only [ops33, body3, Tryz.f3, Option.getD_some, T3] at h9 ⊢
  refine bw_gd (n := 60) (fun _ _ _ h => dl_of_dg h) ?_
  with_reducible refine gd_c T (G_running _ _) (fun _ => stepG_seq) ?_
  ((with_reducible refine gd_c T (G_running _ _) (fun _ => stepG_region) ?_); simp only [List.size_toArray, List.length_cons, List.length_nil, Nat.reduceAdd, Nat.zero_add, List.range, List.range.loop])
  (co_applyP gd_val T rfl rfl (by k_ne) ?_ ?_ ?_; (focus (intro _ K hK; go_simp; (try w_num); exact hK)); (focus (intro _; simp [go_sem, *]; done)); (try walk_nrm))
  with_reducible refine gd_c T (G_running _ _) (fun _ => stepG_region_end) ?_
  with_reducible refine gd_c T (G_running _ _) (fun _ => stepG_seq) ?_
  with_reducible refine gd_c T (G_running _ _) (fun _ => stepG_seq) ?_
  ((with_reducible refine gd_c T (G_running _ _) (fun _ => stepG_region) ?_); simp only [List.size_toArray, List.length_cons, List.length_nil, Nat.reduceAdd, Nat.zero_add, List.range, List.range.loop])
  (co_applyP gd_val T rfl rfl (by k_ne) ?_ ?_ ?_; (focus (intro _ K hK; go_simp; (try w_num); exact hK)); (focus (intro _; simp [go_sem, *]; done)); (try walk_nrm))
  (co_applyP gd_val T rfl rfl (by k_ne) ?_ ?_ ?_; (focus (intro _ K hK; go_simp; (try w_num); exact hK)); (focus (intro _; simp [go_sem, *]; done)); (try walk_nrm))
  (co_applyP gd_val T rfl rfl (by k_ne) ?_ ?_ ?_; (focus (intro _ K hK; go_simp; (try w_num); exact hK)); (focus (intro _; simp [go_sem, *]; done)); (try walk_nrm))
  (co_applyP gd_val T rfl rfl (by k_ne) ?_ ?_ ?_; (focus (intro _ K hK; go_simp; (try w_num); exact hK)); (focus (intro _; simp [go_sem, *]; done)); (try walk_nrm))
  (co_applyP gd_val T rfl rfl (by k_ne) ?_ ?_ ?_; (focus (intro _ K hK; go_simp; (try w_num); exact hK)); (focus (intro _; simp [go_sem, *]; done)); (try walk_nrm))
  (refine gd_call T rfl rfl (by k_ne) rfl Tryz.func6 cn6 rfl ?_; walk_nrmf Tryz.f6)
  refine GD.stop fun w₁ h₁ => ?_
  obtain ⟨d1, rfl⟩ := h₁
  have hb := fun base0 => long_bw (Shun := Shun) (w := W.at d1) hK ⟨hG.two, hG.cl, hG.txt⟩ hSh base0
  rw [hlg] at hb
  simp only [Tryz.f6, Option.getD_some] at hb
  refine bw_bind (bw_weaken (fun _ _ _ h => h) (fun _ _ h => h) (hb _)) ?_
  rintro gg w2 ⟨fr, d2, rfl, hlv, rfl⟩
  refine bw_step (fun w => ⟨fun e he => by simp at he, Nat.le_refl _, rfl⟩) rfl (fun w => leaveT_step Tryz.func6 rfl hlv true _ _ w) (fun d => ?_)
  rw [Frame.finish_at]
  walk_nrm
  refine bw_gd (n := 120) (fun _ _ _ h => dl_of_dg h) ?_
  (co_applyP gd_val T rfl rfl (by k_ne) ?_ ?_ ?_; (focus (intro _ K hK; go_simp; (try w_num); exact hK)); (focus (intro _; simp [go_sem, *]; done)); (try walk_nrm))
  (co_applyP gd_val T rfl rfl (by k_ne) ?_ ?_ ?_; (focus (intro _ K hK; go_simp; (try w_num); exact hK)); (focus (intro _; simp [go_sem, *]; done)); (try walk_nrm))
  with_reducible refine gd_c T (G_running _ _) (fun _ => stepG_region_end) ?_
  (refine gd_c T rfl (fun _ => stepG_cond (t := false) rfl) ?_; simp only [if_true, if_false, Bool.false_eq_true, ↓reduceIte])
  with_reducible refine gd_c T (G_running _ _) (fun _ => stepG_skip) ?_
  with_reducible refine gd_c T (G_running _ _) (fun _ => stepG_seq) ?_
  ((with_reducible refine gd_c T (G_running _ _) (fun _ => stepG_region) ?_); simp only [List.size_toArray, List.length_cons, List.length_nil, Nat.reduceAdd, Nat.zero_add, List.range, List.range.loop])
  (co_applyP gd_val T rfl rfl (by k_ne) ?_ ?_ ?_; (focus (intro _ K hK; go_simp; (try w_num); exact hK)); (focus (intro _; simp [go_sem, *]; done)); (try walk_nrm))
  (co_applyP gd_val T rfl rfl (by k_ne) ?_ ?_ ?_; (focus (intro _ K hK; go_simp; (try w_num); exact hK)); (focus (intro _; simp [go_sem, *]; done)); (try walk_nrm))
  (refine gd_call T rfl rfl (by k_ne) rfl Tryz.func9 cn9 rfl ?_; walk_nrmf Tryz.f9)
  simp only [Tryz.f9, Option.getD_some] at h9
  exact (h9 d lg).mono (by omega)
end
end Go.Proofs.YtacimedkchjfnaaGreat
end

section
/-! HashSpreads' run. -/
namespace Go.Proofs.YtacimedkchjfnaaGreat
set_option linter.unusedSimpArgs false
set_option linter.unusedVariables false
set_option maxRecDepth 20000
open Go.Conc Go.RowKit
open Go.ConcN (sumTo upd)
section
variable {gs : Array Goroutine} {sl : Option (Nat × Nat)} {t : Trace} {q : Nat → Nat} {Shun : Loc → Prop} {w : World} {a : Goroutine}
theorem dl_beside {Stop : Goroutine → World → Prop} (h : BW Tryz.prog (DL Shun) Stop a w) (h0 : gs[0]? = some a) (hL : Leavers Tryz.prog t gs q) (hP : Past Shun w.heap.size t) :
    ∃ (N : Nat) (gs' : Array Goroutine) (a' : Goroutine) (w' : World) (sl' : Option (Nat × Nat)) (t' : Trace) (q' : Nat → Nat),
      runNT Tryz.prog N (crowd gs w sl) t = (.next (crowd gs' w' sl'), t') ∧ gs'[0]? = some a' ∧ Stop a' w' ∧ Leavers Tryz.prog t' gs' q' ∧ Past Shun w'.heap.size t' := by
  obtain ⟨M, gs', a', w1, sl', t', q', hr, _, h01, hS, hL1, hP1⟩ := bw_beside (fun w1 t => Past Shun w1.heap.size t) (fun w t d h => h) (fun w w' es fn pos t h hD => (h.mono hD.2.1).own hD.1) (fun w t i fn pos es hi h hm => h.mute hi hm) h gs w.drawn sl t q h0 hL hP
  exact ⟨M, gs', a', w1, sl', t', q', hr, h01, hS, hL1, hP1⟩
theorem dx_end {f : Nat} {fn : Func} {tm : Tmp} {v : Value} {Q : World → Prop} (hf : Tryz.prog.funcs[f]? = some fn) (hr : fn.results = #[.tmp tm]) (hi : (Tryz.prog.inits.idxOf? f).isNone = true) (hQ : ∀ w d, Q w → Q (w.at d))
    (h : BW Tryz.prog (DX Shun) (fun gg w2 => ∃ fr, gg = G fr [] ∧ LeaveT f tm fr v ∧ Q w2) a w) (h0 : gs[0]? = some a) (hL : Leavers Tryz.prog t gs q) (hP : PastE Shun t) :
    ∃ N last o wF t', runNT Tryz.prog (N + 1) (crowd gs w sl) t = (.ended o wF, t') ∧ runN Tryz.prog N (crowd gs w sl) = .next last ∧ step Tryz.prog last = .ended o wF ∧
      Go.Conc.Good Tryz.prog (fun v' W' => v' = v ∧ Q W' ∧ W'.tape = w.tape) last o wF t' := by
  obtain ⟨M, gs', a', w1, sl', t', q', hr1, hsz, h01, ⟨fr, rfl, hlv, hq⟩, hL1, hP1, htape⟩ := bw_beside (fun w1 t => PastE Shun t ∧ w1.tape = w.tape) (fun w t d h => h) (fun w w' es fn pos t h hD => ⟨h.1.own hD.1, hD.2.trans h.2⟩) (fun w t i fn pos es hi h hm => ⟨h.1.mute hi hm, h.2⟩) h gs w.drawn sl t q h0 hL ⟨hP, rfl⟩
  have hend := fun d => leaveT_end hf hr (inits_none f hi) hlv (w1.at d)
  obtain ⟨N, last, o, wF, tF, e1, e2, e3, e4⟩ := end_beside (P := Tryz.prog) (Shun := Shun) (Post := fun v' W' => v' = v ∧ Q W' ∧ W'.tape = w.tape) rfl hend (fun d => ⟨rfl, hQ _ _ hq, htape⟩) _ gs' w1.drawn sl' t' q' (Nat.le_refl _) h01 hL1 hP1
  refine ⟨M + N, last, o, wF, tF, ?_, ?_, e3, e4⟩
  · rw [Nat.add_assoc, runNT_add, show crowd gs w sl = crowd gs (w.at w.drawn) sl from rfl, hr1]; exact e1
  · rw [runN_add, ← runNT_fst Tryz.prog _ _ t, show crowd gs w sl = crowd gs (w.at w.drawn) sl from rfl, hr1]; exact e2
/-- A run after a run. -/
theorem run_after {Post : Value → World → Prop} {M : Nat} {m m1 : Machine} {t1 : Trace} (h1 : runNT Tryz.prog M m t = (.next m1, t1))
    (h2 : ∃ N last o wF t', runNT Tryz.prog (N + 1) m1 t1 = (.ended o wF, t') ∧ runN Tryz.prog N m1 = .next last ∧ step Tryz.prog last = .ended o wF ∧ Go.Conc.Good Tryz.prog Post last o wF t') :
    ∃ N last o wF t', runNT Tryz.prog (N + 1) m t = (.ended o wF, t') ∧ runN Tryz.prog N m = .next last ∧ step Tryz.prog last = .ended o wF ∧ Go.Conc.Good Tryz.prog Post last o wF t' := by
  obtain ⟨N, last, o, wF, tF, e1, e2, e3, e4⟩ := h2
  refine ⟨M + N, last, o, wF, tF, ?_, ?_, e3, e4⟩
  · rw [Nat.add_assoc, runNT_add, h1]; exact e1
  · rw [runN_add, ← runNT_fst Tryz.prog _ _ t, h1]; exact e2
theorem run_post {Post Post' : Value → World → Prop} {m : Machine} (hp : ∀ v W, Post v W → Post' v W)
    (h2 : ∃ N last o wF t', runNT Tryz.prog (N + 1) m t = (.ended o wF, t') ∧ runN Tryz.prog N m = .next last ∧ step Tryz.prog last = .ended o wF ∧ Go.Conc.Good Tryz.prog Post last o wF t') :
    ∃ N last o wF t', runNT Tryz.prog (N + 1) m t = (.ended o wF, t') ∧ runN Tryz.prog N m = .next last ∧ step Tryz.prog last = .ended o wF ∧ Go.Conc.Good Tryz.prog Post' last o wF t' := by
  obtain ⟨N, last, o, wF, tF, e1, e2, e3, v, e, h, r⟩ := h2
  exact ⟨N, last, o, wF, tF, e1, e2, e3, v, e, hp _ _ h, r⟩
end
theorem below_of_gw {W w : World} {B : Nat} {row : Option Nat} (h : GW W w row) (ht : w.tape = W.tape) (hB : B ≤ W.heap.size) (hrow : ∀ k, row = some k → B ≤ k) : Below B W w :=
  ⟨h.os, ht, h.output, h.size, fun k hk => h.block k (by omega) fun e => by have := hrow k e.symm; omega⟩
/-- The keys, readable, cell by cell. -/
theorem keys_ready {w : World} {A : Option Addr} {L : List ByteArray} {c : Nat} (hK : StrAt w (.slice A L.length c) L) (hs : ∀ s ∈ L, s.size ≤ 140737488355328) {Shun : Loc → Prop} (hSh : ∀ l, Shun l → ∃ a : Addr, l = .cell a ∧ ¬ KOf (.slice A L.length c) L a) :
    ∀ k, k < L.length → ∃ ad, A = some ad ∧ ad.block < w.heap.size ∧ ¬ Shun (.cell (ad.add k)) ∧ w.cell? (ad.add k) = some (.string ((L[k]?).getD default)) ∧ ((L[k]?).getD default).size ≤ 140737488355328 := by
  intro k hk
  obtain ⟨A', c', e, _, h3⟩ := hK
  injection e with e1 e2 e3
  subst e1 e3
  obtain ⟨g, off, rfl, h4, h5⟩ := h3 (by omega)
  have hg : L[k]? = some L[k] := List.getElem?_eq_getElem hk
  refine ⟨_, rfl, h4, fun h => ?_, ?_, ?_⟩
  · obtain ⟨a, e, hn⟩ := hSh _ h
    rw [add_at] at e
    cases e
    exact hn ⟨g, off, c, k, L[k], rfl, hg, rfl⟩
  · rw [add_at, hg]; exact h5 k _ hg
  · rw [hg]; exact hs _ (List.getElem_mem hk)
set_option maxHeartbeats 4000000 in
theorem the_run3 {W : World} {keys : Value} {L : List ByteArray} {nv : Int} (hG : GlobOk W) (hK : StrAt W keys L) (hs : ∀ s ∈ L, s.size ≤ 140737488355328) :
    ∃ N last o wF t', runNT Tryz.prog (N + 1) (solo (G (Frame.enter Tryz.prog 3 #[keys, .int .i64 nv] .normal) []) W) #[] = (.ended o wF, t') ∧ runN Tryz.prog N (solo (G (Frame.enter Tryz.prog 3 #[keys, .int .i64 nv] .normal) []) W) = .next last ∧
      step Tryz.prog last = .ended o wF ∧ Go.Conc.Good Tryz.prog (fun v W' => v = .bool true ∧ Below W.heap.size W W') last o wF t' := by
  have e : Frame.enter Tryz.prog 3 #[keys, .int .i64 nv] .normal = (base 3).at ⟨#[keys, .int .i64 nv, undef, undef, undef, undef, undef, undef, undef, undef, undef, undef, undef, undef, undef, undef, undef, undef, undef, undef, undef, undef, undef, undef], []⟩ [.code body3] := by
    simp [Frame.enter, Frame.at, Tryz.func3, base, body3, Tryz.f3]
  rw [e, solo_eq_crowd]
  clear e
  have hlv := leavers_one Tryz.prog (G ((base 3).at ⟨#[keys, .int .i64 nv, undef, undef, undef, undef, undef, undef, undef, undef, undef, undef, undef, undef, undef, undef, undef, undef, undef, undef, undef, undef, undef, undef], []⟩ [.code body3]) [])
  have hA : ∃ A c, keys = .slice A L.length c := by obtain ⟨A, c, h, _⟩ := hK; exact ⟨A, c, h⟩
  obtain ⟨A, c, hA⟩ := hA
  have known : BW Tryz.prog (DX fun _ => False) (fun gg w2 => ∃ fr, gg = G fr [] ∧ LeaveT 3 4 fr (.bool true) ∧ GW W w2 none) (G ((base 3).at ⟨#[keys, .int .i64 nv, undef, undef, undef, undef, undef, undef, undef, undef, undef, undef, undef, undef, undef, undef, undef, undef, undef, undef, undef, undef, undef, undef], []⟩ [.code body3]) []) W →
      ∃ N last o wF t', runNT Tryz.prog (N + 1) (crowd #[G ((base 3).at ⟨#[keys, .int .i64 nv, undef, undef, undef, undef, undef, undef, undef, undef, undef, undef, undef, undef, undef, undef, undef, undef, undef, undef, undef, undef, undef, undef], []⟩ [.code body3]) []] W none) #[] = (.ended o wF, t') ∧ runN Tryz.prog N (crowd #[G ((base 3).at ⟨#[keys, .int .i64 nv, undef, undef, undef, undef, undef, undef, undef, undef, undef, undef, undef, undef, undef, undef, undef, undef, undef, undef, undef, undef, undef, undef], []⟩ [.code body3]) []] W none) = .next last ∧
      step Tryz.prog last = .ended o wF ∧ Go.Conc.Good Tryz.prog (fun v W' => v = .bool true ∧ Below W.heap.size W W') last o wF t' := fun h =>
    run_post (fun v W' ⟨h1, h2, h3⟩ => ⟨h1, below_of_gw h2 h3 (Nat.le_refl _) (fun k e => by cases e)⟩) (dx_end Tryz.func3 rfl (by kernel_rfl) (fun w d h => h.at d) h rfl hlv (pastE_of past_nil))
  by_cases hn : 100 < L.length
  · exact known (begin3_many hA hn hG hK)
  by_cases hl : 1000 < IntKind.i64.wrap (longL L : Nat)
  · exact known (begin3_long hA hn hl hG hK)
  clear known
  obtain ⟨M1, gs1, a1, w1, sl1, t1, q1, r1, h01, ⟨hp1, rfl⟩, L1, P1⟩ := dl_beside (sl := none) (begin3_go (nv := nv) (Shun := fun _ => False) hA hn hl hG hK (fun l h => h.elim)) rfl hlv (past_nil.mono (Nat.zero_le _))
  refine run_after r1 ?_
  have hsz := hp1.size
  have hK1 : StrAt w1 keys L := hK.below hp1.bl (Nat.le_refl _)
  subst hA
  obtain ⟨M2, gs2, w2, sl2, t2, q2, g, r2, h02, L2, P2, sw⟩ := shards_crowd (sl := sl1) h01 L1 P1 (fun l (h : False) => h.elim) (by omega) (keys_ready hK1 hs (fun l (h : False) => h.elim))
  refine run_after r2 ?_
  have hb2 : Below W.heap.size W w2 := hp1.bl.trans (sw.bl.mono (by omega))
  have hG2 : GlobOk w2 := hG.below hb2 hG.two
  have hK2 : StrAt w2 (.slice A L.length c) L := hK.below hb2 (Nat.le_refl _)
  have ⟨hlo, htop⟩ := And.intro sw.lo sw.top
  have hkw : ∀ a, KOf (.slice A L.length c) L a → a.block < W.heap.size := fun a ha => by
    obtain ⟨s, _, hs⟩ := kof_cell hK ha
    exact lt_of_cell hs
  have h2 := hG.two
  have hl3 := last3 (w := w2) (m := clipI nv) (Ob := W.heap.size) (C := w1.heap.size + 1) (g := g) (n := L.length) (lg := IntKind.i64.wrap (longL L : Nat)) (sl := sl2) (gs := gs2) (t := t2) (q := q2) (Shun := fun l => False ∨ ∃ a : Addr, l = .cell a ∧ a.block = g) (nv := nv) rfl (by omega) hs hK2 hG2
    (by
      obtain ⟨cs, c1, c2, c3⟩ := sw.out
      refine ⟨cs, c1, c2, fun k s hk => ?_⟩
      have := c3 k (List.getElem?_eq_some_iff.1 hk).1
      rw [hk] at this
      exact this)
    (by rw [sw.bl.block W.heap.size (by omega)]; exact hp1.o)
    ⟨by omega, htop, by omega, by omega⟩ (fun a ha => by have := hkw a ha; omega) (fun l h => h.elim False.elim id) (by rw [h02]; rfl) L2 (pastE_of P2)
  refine run_post (fun v W' ⟨h1, h3, h4⟩ => ⟨h1, hb2.trans ?_⟩) hl3
  exact below_of_gw h3 h4 (by have := sw.bl.size; omega) (fun k e => by cases e; omega)
end Go.Proofs.YtacimedkchjfnaaGreat
end
