import Derived.Test.YtapclgjelekijaaE0
/-! The reference's table beside the table. -/
namespace Go.Proofs.Ytapclgjelekijaa
open Go.RowKit Go.Proofs.YtapclgjelekijaaW.PrintWords Go.Proofs.YtapclgjelekijaaW.PrintLast Go.Proofs.YtapclgjelekijaaW.PrintMore
open PTableSteps
set_option linter.unusedSimpArgs false
set_option linter.unusedVariables false

/-- The reference's table: its block, its row; off the table. -/
def RefQ (lo ub : Nat) (room : Int) (xs : List S58) : World → (Nat → Prop) → Prop := fun w F =>
  ∃ v P, w.heap[ub]? = some (.cells #[.int .i64 room, v] 50 (0, 0)) ∧ lo ≤ ub ∧ ¬ F ub ∧ Kd.R k58 58 w lo P v xs ∧ ∀ k, P k → lo ≤ k ∧ k < w.heap.size ∧ ¬ F k ∧ k ≠ ub
theorem RefQ.stab {lo ub : Nat} {room : Int} {xs : List S58} : Stab (RefQ lo ub room xs) := by
  rintro wr w' F F' ⟨v, P, h1, h2, h3, h4, h5⟩ hf hF
  have hlt : ub < wr.heap.size := (Array.getElem?_eq_some_iff.1 h1).1
  refine ⟨v, P, (hf.block ub hlt h3).trans h1, h2, fun hh => ?_, Kd.R_step h4 (fun k hk hl => hf.block k hl (h5 k hk).2.2.1), fun k hk => ?_⟩
  · rcases hF ub hh with h | h
    · exact h3 h
    · omega
  · obtain ⟨a, b, c, d⟩ := h5 k hk
    refine ⟨a, Nat.lt_of_lt_of_le b hf.size, fun hh => ?_, d⟩
    rcases hF k hh with h | h
    · exact c h
    · omega
section
variable {w wr : World} {b room : Nat} {L : List (ByteArray × Int)}
theorem Hld.ref {w1 w2 : World} {v : Value} {xs : List S58} {r : Int} (H : Hld w w1 b room L NoQ) (hR : Kd.R k58 58 w2 w1.heap.size (fun _ => True) v xs) (hB : Below w1.heap.size w1 w2) :
    Hld w (w2.alloc (.cells #[.int .i64 r, v] 50 (0, 0))) b room L (RefQ w.heap.size w2.heap.size r xs) := by
  obtain ⟨⟨F, hT, hF, _⟩, hb, _, hg⟩ := H
  have hb2 : Below w2.heap.size w2 (w2.alloc (.cells #[.int .i64 r, v] 50 (0, 0))) := (Below.refl _ _).alloc (Nat.le_refl _) _
  have hb3 := hB.trans (hb2.mono hB.size)
  refine ⟨⟨F, hT.below hb3, fun k hk => ⟨(hF k hk).1, Nat.lt_of_lt_of_le (hF k hk).2 hb3.size⟩, v, fun k => w1.heap.size ≤ k ∧ k < w2.heap.size, blk_new _ _, Nat.le_trans hb.size hB.size, fun hh => ?_, ?_, fun k hk => ⟨Nat.le_trans hb.size hk.1, Nat.lt_of_lt_of_le hk.2 hb2.size, fun hh => ?_, by omega⟩⟩, hb.trans (hb3.mono hb.size), RefQ.stab, hg⟩
  · have := (hF _ hh).2
    have := hB.size
    omega
  · exact Kd.R_below (Kd.R_lower (Kd.R_mono (Kd.R_bound hR) fun k hk => ⟨hk.2.1, hk.2.2.1⟩) hb.size) hb2
  · have := (hF _ hh).2
    omega
variable {ub : Nat} {r : Int} {xs : List S58}
theorem Hld.refBlk (H : Hld w wr b room L (RefQ w.heap.size ub r xs)) : ∃ A c, wr.heap[ub]? = some (.cells #[.int .i64 r, .slice A xs.length c] 50 (0, 0)) ∧ Kd.C k58 wr A xs.length xs ∧ xs.length ≤ c ∧ w.heap.size ≤ ub := by
  obtain ⟨F, _, _, v, P, h1, h2, _, h4, _⟩ := H.tab
  obtain ⟨A, c, rfl, hc, hC⟩ := Kd.R_reads h4
  exact ⟨A, c, h1, hC, hc, h2⟩

/-- Behind Step: the table as it was, the reference's row anew, its variable not yet. -/
def Stp (w W : World) (b room : Nat) (L : List (ByteArray × Int)) (ub vb : Nat) (r : Int) (v0 v1 : Value) (xs : List S58) : Prop :=
  ∃ F P, TabAt W w.heap.size b room L F ∧ (∀ k, F k → w.heap.size ≤ k ∧ k < W.heap.size) ∧ W.heap[ub]? = some (.cells #[.int .i64 r, v0] 50 (0, 0)) ∧ w.heap.size ≤ ub ∧ ¬ F ub ∧ Kd.R k58 58 W w.heap.size P v1 xs ∧
    (∀ k, P k → w.heap.size ≤ k ∧ k < W.heap.size ∧ ¬ F k ∧ k ≠ ub) ∧ Below w.heap.size w W ∧ Good room L ∧ ¬ F vb ∧ ¬ P vb ∧ vb ≠ ub ∧ w.heap.size ≤ vb
variable {vb : Nat} {v0 v1 : Value}
theorem Stp.fr {W W' : World} (H : Stp w W b room L ub vb r v0 v1 xs) (hf : Fr (fun k => k = vb) W W') : Stp w W' b room L ub vb r v0 v1 xs := by
  obtain ⟨F, P, h1, h2, h3, h4, h5, h6, h7, h8, h9, h10, h11, h12, h13⟩ := H
  have hlt : ub < W.heap.size := (Array.getElem?_eq_some_iff.1 h3).1
  refine ⟨F, P, h1.fr hf fun k hk e => ?_, fun k hk => ⟨(h2 k hk).1, Nat.lt_of_lt_of_le (h2 k hk).2 hf.size⟩, (hf.block ub hlt fun e => h12 e.symm).trans h3, h4, h5, Kd.R_step h6 (fun k hk hl => hf.block k hl fun e => ?_), fun k hk => ?_, h8.trans (hf.below_of h8.size fun k hk => ?_), h9, h10, h11, h12, h13⟩
  · subst e; exact h10 hk
  · subst e; exact h11 hk
  · obtain ⟨a, b, c, d⟩ := h7 k hk
    exact ⟨a, Nat.lt_of_lt_of_le b hf.size, c, d⟩
  · subst hk; exact h13
theorem Stp.close {W : World} (H : Stp w W b room L ub vb r v0 v1 xs) : Hld w ((W.setCell ⟨ub, 0, none⟩ (.int .i64 r)).setCell ⟨ub, 1, none⟩ v1) b room L (RefQ w.heap.size ub r xs) := by
  obtain ⟨F, P, h1, h2, h3, h4, h5, h6, h7, h8, h9, h10, h11, h12, h13⟩ := H
  have hf : Fr (fun k => k = ub) W ((W.setCell ⟨ub, 0, none⟩ (.int .i64 r)).setCell ⟨ub, 1, none⟩ v1) := ((Fr.refl (fun k => k = ub) W).setCell (F := fun k => k = ub) (p := ⟨ub, 0, none⟩) (.inl rfl) _).setCell (F := fun k => k = ub) (p := ⟨ub, 1, none⟩) (.inl rfl) _
  refine ⟨⟨F, h1.fr hf fun k hk e => ?_, fun k hk => ⟨(h2 k hk).1, Nat.lt_of_lt_of_le (h2 k hk).2 hf.size⟩, v1, P, ?_, h4, h5, Kd.R_step h6 (fun k hk hl => hf.block k hl fun e => (h7 k hk).2.2.2 e), fun k hk => ?_⟩, h8.trans (hf.below_of h8.size fun k hk => ?_), RefQ.stab, h9⟩
  · subst e; exact h5 hk
  · exact blk_put (blk_put h3 0 _ rfl) 1 _ rfl
  · obtain ⟨a, b, c, d⟩ := h7 k hk
    exact ⟨a, Nat.lt_of_lt_of_le b hf.size, c, d⟩
  · subst hk; exact h4
theorem Stp.ubBlk {W : World} (H : Stp w W b room L ub vb r v0 v1 xs) : W.heap[ub]? = some (.cells #[.int .i64 r, v0] 50 (0, 0)) := by
  obtain ⟨F, P, h1, h2, h3, _⟩ := H
  exact h3
theorem Stp.bel {W : World} (H : Stp w W b room L ub vb r v0 v1 xs) : Below w.heap.size w W := by
  obtain ⟨F, P, h1, h2, h3, h4, h5, h6, h7, h8, _⟩ := H
  exact h8

theorem Hld.step {L0 : List (ByteArray × Int)} (H : Hld w wr b room L (RefQ w.heap.size ub (room : Int) (encL L0))) (hL0 : L0.length ≤ 10000) (d : Act3) :
    ∃ A c, wr.heap[ub]? = some (.cells #[.int .i64 (room : Int), .slice A L0.length c] 50 (0, 0)) ∧ w.heap.size ≤ ub ∧ ∀ W0, Below wr.heap.size wr W0 →
      Calls Try.prog 24 #[.agg #[.int .i64 (room : Int), .slice A L0.length c], .agg #[.int .i64 d.kind, .string d.key, .int .i64 d.n]] W0 fun e w' =>
        ∃ A1 c1, e = .returned (.tuple #[.agg #[.int .i64 (room : Int), .slice A1 (doL room L0 d).1.length c1], .int .i64 (doL room L0 d).2.1, .bool (doL room L0 d).2.2]) ∧
          Stp w w' b room L ub w'.heap.size (room : Int) (.slice A L0.length c) (.slice A1 (doL room L0 d).1.length c1) (encL (doL room L0 d).1) ∧
          (∀ vb, wr.heap.size ≤ vb → vb < W0.heap.size → w'.heap[vb]? = W0.heap[vb]? ∧ Stp w w' b room L ub vb (room : Int) (.slice A L0.length c) (.slice A1 (doL room L0 d).1.length c1) (encL (doL room L0 d).1)) := by
  obtain ⟨⟨F, hT, hF, v, P, h1, h2, h3, h4, h5⟩, hB, hs, hg⟩ := H
  obtain ⟨A, c, rfl, _, _⟩ := Kd.R_reads h4
  rw [encL_length] at *
  have hlt : ub < wr.heap.size := (Array.getElem?_eq_some_iff.1 h1).1
  refine ⟨A, c, h1, h2, fun W0 hb => ?_⟩
  have hR0 := Kd.R_below h4 hb
  refine (tapsterref09_Step.calls 20000 (room : Int) P _ (encL L0) d.kind d.key d.n _ _ _ _ w W0 (hB.trans (hb.mono hB.size)) hR0 (step_f L0 room hL0 d)).mono ?_
  rintro e w' ⟨v1, rfl, hR1, hB1, hk⟩
  obtain ⟨A1, c1, rfl, _, _⟩ := Kd.R_reads hR1
  rw [encL_length] at *
  have hFW : ∀ k, F k → k < W0.heap.size := fun k hk => Nat.lt_of_lt_of_le (hF k hk).2 hb.size
  have hfr : Fr P W0 w' := ⟨hB1.os.trans (hB.trans (hb.mono hB.size)).os.symm, hB1.tape.trans (hB.trans (hb.mono hB.size)).tape.symm, hB1.output.trans (hB.trans (hb.mono hB.size)).output.symm, hk.1, fun k h hn => hk.2 k h hn⟩
  have hP' := Kd.R_bound hR1
  have key : ∀ vb, (wr.heap.size ≤ vb ∧ vb < W0.heap.size) ∨ vb = w'.heap.size → Stp w w' b room L ub vb (room : Int) (.slice A L0.length c) (.slice A1 (doL room L0 d).1.length c1) (encL (doL room L0 d).1) := by
    intro vb hvb
    have hsz := hb.size
    have hsz2 := hk.1
    refine ⟨F, _, (hT.below hb).fr hfr fun k hk hp => (h5 k hp).2.2.1 hk, fun k hk' => ⟨(hF k hk').1, Nat.lt_of_lt_of_le (hFW k hk') hk.1⟩, (hk.2 ub (Nat.lt_of_lt_of_le hlt hb.size) fun hp => (h5 ub hp).2.2.2 rfl).trans ((hb.block ub hlt).trans h1), h2, h3, hP', fun k hp => ⟨hp.2.1, hp.2.2.1, ?_, ?_⟩, hB1, hg, fun hh => ?_, fun hp => ?_, ?_, ?_⟩
    · intro hh
      rcases hp.1 with hp | hp
      · exact (h5 k hp).2.2.1 hh
      · have := hFW k hh; omega
    · rintro rfl
      rcases hp.1 with hp | hp
      · exact (h5 _ hp).2.2.2 rfl
      · omega
    · have := (hF vb hh).2
      rcases hvb with h | h <;> omega
    · rcases hvb with h | h
      · rcases hp.1 with hp | hp
        · have := (h5 vb hp).2.1; omega
        · omega
      · have := hp.2.2.1; omega
    · rcases hvb with h | h <;> omega
    · have := hB.size
      rcases hvb with h | h <;> omega
  refine ⟨A1, c1, rfl, key _ (.inr rfl), fun vb hv1 hv2 => ⟨hk.2 vb hv2 fun hp => ?_, key vb (.inl ⟨hv1, hv2⟩)⟩⟩
  have := (h5 vb hp).2.1
  omega
theorem nextV_eq (o : Option ByteArray) : nextV o = .tuple #[.string (o.getD ⟨#[]⟩), .bool o.isSome] := by cases o <;> rfl
/-- What reads the reference's table. -/
theorem Hld.refs {L0 : List (ByteArray × Int)} (H : Hld w wr b room L (RefQ w.heap.size ub r (encL L0))) (hL0 : L0.length ≤ 10000) (key : ByteArray) :
    ∃ A c, wr.heap[ub]? = some (.cells #[.int .i64 r, .slice A L0.length c] 50 (0, 0)) ∧
      (Calls Try.prog 25 #[.agg #[.int .i64 r, .slice A L0.length c], .string key] wr fun e w' => e = .returned (peekV L0 key) ∧ Below wr.heap.size wr w') ∧
      (Calls Try.prog 26 #[.agg #[.int .i64 r, .slice A L0.length c], .string key] wr fun e w' => e = .returned (nextV (nextL L0 key)) ∧ Below wr.heap.size wr w') ∧
      (Calls Try.prog 27 #[.agg #[.int .i64 r, .slice A L0.length c]] wr fun e w' => ∃ v, e = .returned v ∧ StrAt w' v (L0.map (·.1)) ∧ Below wr.heap.size wr w') ∧
      (∀ q, L0[0]? = some q → ∃ g o, A = some ⟨g, o, none⟩ ∧ wr.cell? ⟨g, o, none⟩ = some (.string q.1) ∧ wr.cell? ⟨g, o + 1, none⟩ = some (.int .i64 q.2)) := by
  obtain ⟨A, c, h1, hC, hc, _⟩ := H.refBlk
  rw [encL_length] at h1
  have p1 := tapsterref09_Peek.calls 20000 r A c (encL L0) key _ _ wr hC hc (peek_f L0 hL0 key r)
  have p2 := tapsterref09_Next.calls 20000 r A c (encL L0) key _ _ wr hC hc (next_f L0 hL0 key r)
  have p3 := tapsterref09_Keys.calls 20000 r A c (encL L0) _ wr hC hc (keys_f L0 hL0 r)
  rw [encL_length] at p1 p2 p3
  refine ⟨A, c, h1, p1, ?_, ?_, ?_⟩
  · rw [nextV_eq]
    exact p2
  · refine p3.mono ?_
    rintro e w' ⟨v, he, hR, hb⟩
    exact ⟨v, he, StrAt.own (Kd.own_of_R hR), hb⟩
  · intro q hq
    have hl : 0 < L0.length := (List.getElem?_eq_some_iff.1 hq).1
    obtain ⟨ad, e, x0, x1⟩ := at_T58 hC 0 (Int.le_refl _) (by rw [encL_length]; omega)
    have hr := rd_encL hq
    rw [show ((0 : Nat) : Int) = 0 from rfl] at hr
    rw [hr] at x0 x1
    have ha : ad.add ((0 : Int).toNat * 2) = ad := by simp [Addr.add]
    rw [ha] at x0 x1
    have hsp : ad.spot = none := by
      unfold World.cell? at x0
      split at x0
      · split at x0
        · simp at x0
        · rename_i hns; simpa using hns
      · simp at x0
    obtain ⟨g, o, spot⟩ := ad
    simp only at hsp
    subst hsp
    exact ⟨g, o, e, x0, x1⟩
theorem Hld.keysB {Q : World → (Nat → Prop) → Prop} (H : Hld w wr b room L Q) : Calls Try.prog 14 #[.pointer (some ⟨b, 0, none⟩)] wr fun e w' => ∃ v, e = .returned v ∧ StrAt w' v (L.map (·.1)) ∧ Below wr.heap.size wr w' := by
  obtain ⟨F, hT, _⟩ := H.tab
  refine (keys_calls wr w.heap.size b room L F hT).mono ?_
  rintro e w' ⟨v, h1, h2, h3⟩
  refine ⟨v, h1, StrAt.own (base := wr.heap.size) (n := L.length) ?_, h3⟩
  rw [List.map_map]
  exact h2
theorem Hld.lenB {Q : World → (Nat → Prop) → Prop} (H : Hld w wr b room L Q) : Calls Try.prog 20 #[.pointer (some ⟨b, 0, none⟩)] wr fun e w' => e = .returned (.int .i64 (L.length : Int)) ∧ Below wr.heap.size wr w' := by
  obtain ⟨F, hT, _⟩ := H.tab
  refine (len_calls wr w.heap.size b room L F hT).mono ?_
  rintro e w' ⟨h1, m, rfl⟩
  exact ⟨h1, belowN (Below.refl _ _) m⟩
theorem same_true (W : World) (u1 u2 : Value) (l : List ByteArray) (h1 : StrAt W u1 l) (h2 : StrAt W u2 l) : Calls Try.prog 17 #[u1, u2] W fun e w' => e = .returned (.bool true) ∧ Below W.heap.size W w' := by
  refine (same_calls W u1 u2 l l h1 h2).mono ?_
  rintro e w' ⟨h, m, rfl⟩
  rw [decide_eq_true rfl] at h
  exact ⟨h, belowN (Below.refl _ _) m⟩
theorem Hld.refKeys {L0 : List (ByteArray × Int)} (H : Hld w wr b room L (RefQ w.heap.size ub r (encL L0))) (hL0 : L0.length ≤ 10000) :
    ∃ A c, ∀ W, Below wr.heap.size wr W → (W.cell? ⟨ub, 0, none⟩ = some (.int .i64 r) ∧ W.cell? ⟨ub, 1, none⟩ = some (.slice A L0.length c)) ∧
      (Calls Try.prog 27 #[.agg #[.int .i64 r, .slice A L0.length c]] W fun e w' => ∃ v, e = .returned v ∧ StrAt w' v (L0.map (·.1)) ∧ Below W.heap.size W w') := by
  obtain ⟨A, c, h1, _⟩ := H.refs hL0 ⟨#[]⟩
  refine ⟨A, c, fun W hb => ?_⟩
  obtain ⟨A', c', h2, _, _, h3, _⟩ := (H.below hb).refs hL0 ⟨#[]⟩
  have h4 := (hb.block ub (blk_lt h1)).trans h1
  rw [h2] at h4
  simp only [Option.some.injEq, Obj.cells.injEq, Array.mk.injEq, List.cons.injEq, Value.slice.injEq, true_and, and_true] at h4
  obtain ⟨rfl, rfl⟩ := h4
  exact ⟨⟨blk_cell h2 0, blk_cell h2 1⟩, h3⟩
end
end Go.Proofs.Ytapclgjelekijaa
