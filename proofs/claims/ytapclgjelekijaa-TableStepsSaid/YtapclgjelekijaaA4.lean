import Derived.Test.YtapclgjelekijaaA3
/-! The table's ring: put, in a new slot. -/
namespace Go.Proofs.Ytapclgjelekijaa
open Go.RowKit

theorem info68 : (Try.prog.info? 68).map (fun i => (i.zero, i.size, i.bytes)) = some (some (.agg #[.string ⟨#[]⟩, .int .i64 0, .int .i64 0, .int .i64 0]), 4, 40) := by kernel_rfl

theorem RingAt.grownSlots {w w2 : World} {lo b : Nat} {R : Ring} {sv fv wv : Value} (H : RingAt w lo b R sv fv wv) (hg : w.grownBy w2 sv.ownBlock) {v1 : Value} {S : List Slot} (hown : w2.ownsRow lo 68 4 v1 S.length (rowOf S)) :
    RingAt (w2.setCell ⟨b, 1, none⟩ v1) lo b { R with slots := S } v1 fv wv ∧ w2.cell? ⟨b, 1, none⟩ = some sv ∧ w2.frozen? ⟨b, 1, none⟩ = false ∧ b < w2.heap.size := by
  have hk : ∀ k, Foot b sv fv wv k → sv.ownBlock ≠ some k → w2.heap[k]? = w.heap[k]? := fun k hk hne => hg.block k (H.foot_lt k hk).2 (fun e => hne e.symm)
  have hb := (hk b (.inl rfl) H.sb).trans H.blk
  have hf : w2.ownsRow lo 3 1 fv R.free.length (nats R.free) := own_kept H.f fun g hg2 => hk g (.inr (.inr (.inl hg2))) (fun e => H.sf e hg2)
  have hy : w2.ownsRow lo 3 1 wv R.ways.length (nats R.ways) := own_kept H.y fun g hg2 => hk g (.inr (.inr (.inr hg2))) (fun e => H.sy e hg2)
  refine ⟨⟨heap_set_same w2 b 1 hb _, H.lob, own_far hown (fun e => ?_) _, own_far hf H.fb _, own_far hy H.yb _, H.fy⟩, cell_of_row w2 b 1 _ _ _ hb, by simp [World.frozen?, hb], (Array.getElem?_eq_some_iff.1 hb).1⟩
  obtain ⟨cur, h⟩ := own_obj hown e
  rw [hb] at h
  simp at h

set_option maxHeartbeats 4000000 in
theorem put_new (w : World) (lo b : Nat) (R : Ring) (o : List Nat) (P : Rep R o) (hfree : R.free = []) (sv fv : Value) (gw cw : Nat)
   (H : RingAt w lo b R sv fv (.slice (some ⟨gw, 0, none⟩) R.ways.length cw)) (hlo : lo ≤ w.heap.size) (key : ByteArray) (n : Int) (hks : key.size ≤ 140737488355328)
   (habs : ∀ a, a ∈ o → R.key a ≠ key) (hroom : o.length < R.room) :
    Calls Try.prog 30 #[.pointer (some ⟨b, 0, none⟩), .string key, .int .i64 n] w (TabPost w lo b R.room (Foot b sv fv (.slice (some ⟨gw, 0, none⟩) R.ways.length cw)) (.bool true) (Lst R o ++ [(key, n)])) := by
  obtain ⟨A, cs, hsv⟩ := own_any H.s
  subst hsv
  obtain ⟨A2, cf, hfv⟩ := own_any H.f
  subst hfv
  have hsl := P.slots_le
  have hf0 : R.free.length = 0 := by rw [hfree]; rfl
  have hcr : (decide ((R.room : Int) ≤ (R.slots.length : Int) - (R.free.length : Int))) = false := by
    rw [decide_eq_false_iff_not]; have := P.cnt; omega
  have HFL := Asd.mk (show R.free.length ≤ 100000 by omega)
  have HFR := Asd.mk hfree
  have HF : Asd (Fr (Foot b (.slice A R.slots.length cs) (.slice A2 R.free.length cf) (.slice (some ⟨gw, 0, none⟩) R.ways.length cw)) w w) := ⟨Fr.refl _ _⟩
  have HF0 := Asd.mk hf0
  clear hfree hf0
  obtain ⟨i0, hi, hz0, hz1, hz2⟩ := info_parts info68
  go_enter Try.func30, Try.ntmps30
  go_wp2_with fail
  refine (find_absent H P habs hks).mono ?_
  rintro e w' ⟨rfl, m0, rfl⟩
  have H1 := H.drewN m0
  have F1 := Asd.mk (HF.out.drewN m0)
  have hlo1 : lo ≤ (w.drewN m0).heap.size := hlo
  generalize w.drewN m0 = w1 at H1 F1 hlo1 ⊢
  clear HF
  have h0 : w1.cell? ⟨b, 0, none⟩ = some (.int .i64 (R.room : Int)) := H1.cell 0
  have h1 : w1.cell? ⟨b, 1, none⟩ = some (.slice A R.slots.length cs) := H1.cell 1
  have h2 : w1.cell? ⟨b, 2, none⟩ = some (.slice A2 R.free.length cf) := H1.cell 2
  have hb1 : b < w1.heap.size := (H1.foot_lt b (.inl rfl)).2
  have fb := H1.frozen
  go_wp2_with fail
  go_quiet ((go_at_call 33; exact Calls.quiet_of (count_calls _ lo b R _ _ _ (H1.drewN _) hsl HFL.out)))
  have hzz : (decide (0 < R.free.length)) = false := by rw [decide_eq_false_iff_not]; have := HF0.out; omega
  go_wp2_with (at_builtin; refine wpList_append_own_at _ rfl _ _ 61 rfl lo 68 i0 (.agg #[.string ⟨#[]⟩, .int .i64 0, .int .i64 0, .int .i64 0]) 4 40 Try.underlying61 hi hz0 hz1 hz2 rfl (by decide) _ _ _ rfl ((H1.drewN _).s.alloc _) ⟨w1.heap.size, 0, none⟩ 1 1 [.string ⟨#[]⟩, .int .i64 0, .int .i64 0, .int .i64 0] rfl rfl (World.news_of_block (cs := #[.string ⟨#[]⟩, .int .i64 0, .int .i64 0, .int .i64 0]) (t := 68) (fr := (0, 0)) (heap_alloc_new _ _)) (by simp [Value.oneCell']) (by simp only [maxLen]; omega) (by omega) (by simp; omega) ?_; intro v1 w2 hown hg _ hat; obtain ⟨g1, c1, rfl, _⟩ := own_form hown (by omega); have HW := RingAt.grownSlots ((H1.drewN nq).alloc _) hg (S := R.slots ++ [zeroSlot]) (by rw [rowOf_append, List.length_append]; exact hown); obtain ⟨HW1, HW2, HW3, HW4⟩ := HW)
  have hk1g : Value.ownBlock (.slice (some ⟨g1, 0, none⟩) (R.slots.length + 1) c1) = Value.ownBlock (.slice A R.slots.length cs) ∨ w.heap.size ≤ g1 := by
    rcases hat with hat | hat
    · exact .inl hat
    · have := F1.out.size
      simp only [Value.ownBlock, Option.some.injEq] at hat
      right
      rw [hat]
      simp
      omega
  have hF1' : Foot b (.slice A R.slots.length cs) (.slice A2 R.free.length cf) (.slice (some ⟨gw, 0, none⟩) R.ways.length cw) g1 ∨ w.heap.size ≤ g1 := by
    rcases hk1g with h | h
    · exact .inl (.inr (.inl h.symm))
    · exact .inr h
  have HG1 := Asd.mk hF1'
  clear hk1g hF1'
  have H2 := HW1
  have F2 := Asd.mk ((((F1.out.drewN nq).alloc (.cells #[.string ⟨#[]⟩, .int .i64 0, .int .i64 0, .int .i64 0] 68)).grown hg (fun k hk => .inl (.inr (.inl hk)))).setCell (p := ⟨b, 1, none⟩) (.inl (.inl rfl)) (.slice (some ⟨g1, 0, none⟩) (R.slots.length + 1) c1))
  clear HW1 HW2 HW3 HW4 hown hg hat H1 h0 h1 h2 fb F1
  generalize w2.setCell ⟨b, 1, none⟩ (.slice (some ⟨g1, 0, none⟩) (R.slots.length + 1) c1) = w2' at H2 F2 ⊢
  obtain ⟨w2, rfl⟩ : ∃ x, x = w2' := ⟨_, rfl⟩
  obtain ⟨k, hkk⟩ : ∃ k, k = R.slots.length := ⟨_, rfl⟩
  have hkl : k < R.slots.length + 1 := by omega
  rw [← hkk]
  have HKK := Asd.mk hkk
  clear hkk
  obtain ⟨d, hd, hz0, hbf, hpr⟩ := P.absent habs
  have hz : (hsum key + d) % R.ways.length < R.ways.length := Nat.mod_lt _ (by omega)
  generalize hzz : (hsum key + d) % R.ways.length = z at hz0 hz hpr
  have HPR : Asd (probe R.ways R.key key R.ways.length (hsum key % R.ways.length) = some z) := ⟨hpr⟩
  have HZZ := Asd.mk hzz
  have HZ0 := Asd.mk hz0
  clear hpr hzz hz0
  have HWL : Asd (∀ p k : Nat, R.ways[p]? = some (k + 1) → k < R.slots.length) := ⟨P.ways_lt⟩
  obtain ⟨R1, hR1⟩ : ∃ R1 : Ring, R1 = { R with slots := R.slots ++ [zeroSlot] } := ⟨_, rfl⟩
  rw [← hR1] at H2
  have e1 : Asd (R1.ways = R.ways) := ⟨by rw [hR1]⟩
  have e2 : Asd (R1.key = R.key) := ⟨by
    rw [hR1]
    funext a
    unfold Ring.key
    show (((R.slots ++ [zeroSlot])[a]?).map Slot.key).getD _ = _
    rw [List.getElem?_append]
    split
    · rfl
    · rename_i h
      rw [List.getElem?_eq_none (l := R.slots) (by omega)]
      rcases Nat.eq_zero_or_pos (a - R.slots.length) with h0 | h0
      · rw [h0]; rfl
      · rw [List.getElem?_eq_none (by simp; omega)]⟩
  have e3 : Asd (R1.slots.length = R.slots.length + 1) := ⟨by rw [hR1]; simp⟩
  have HR1 := Asd.mk hR1
  clear hR1
  have hat : ∀ W, RingAt W lo b R1 (.slice (some ⟨g1, 0, none⟩) (R.slots.length + 1) c1) (.slice A2 R.free.length cf) (.slice (some ⟨gw, 0, none⟩) R.ways.length cw) → Calls Try.prog 37 #[.pointer (some ⟨b, 0, none⟩), .string key] W fun e w' => e = .returned (.int .i64 (z : Int)) ∧ ∃ m, w' = W.drewN m := fun W HW =>
    at_calls W lo b R1 _ _ _ HW (by rw [e1.out, e3.out]; intro p k h; have := HWL.out p k h; omega) (by rw [e3.out]; have := P.cap; have := P.room; have := P.cnt; have := HF0.out; omega) (by rw [e1.out]; exact P.ways_le.1) (by rw [e1.out]; exact P.ways_le.2) key hks R.ways.length z (by rw [e1.out, e2.out]; exact HPR.out)
  have HAT := Asd.mk hat
  clear hat
  have hwl := P.ways_le
  have cz : w2.cell? ⟨gw, z, none⟩ = some (.int .i64 0) := H2.way (by rw [e1.out]; exact HZ0.out)
  have c3 : w2.cell? ⟨b, 3, none⟩ = some (.slice (some ⟨gw, 0, none⟩) R.ways.length cw) := H2.cell 3
  have fw : ∀ i, w2.frozen? ⟨gw, i, none⟩ = false := own_frozen H2.y rfl
  have hgwb : gw ≠ b := fun e => H2.yb (by rw [e]; rfl)
  have hk1 : IntKind.i64.wrap ((k : Int) + 1) = (k : Int) + 1 := IntWalk.i64_in _ (by omega)
  go_region_held3 (fun w' => w'.cell? ⟨b, 3, none⟩ = some (.slice (some ⟨gw, 0, none⟩) R.ways.length cw))
    (first | exact c3 | exact (World.cell?_setCell_other _ _ _ _ (fun e => hgwb (congrArg Addr.block e))).trans c3 | fail)
    (first | (go_at_call 37; refine (HAT.out _ H2.drew).mono ?_; rintro e w' ⟨rfl, m, rfl⟩))
  clear hk1
  have H3 : RingAt ((w2.drewN (1 + m)).setCell ⟨gw, z, none⟩ (.int .i64 ((k : Int) + 1))) lo b { R1 with ways := R.ways.set z (k + 1) } (.slice (some ⟨g1, 0, none⟩) (R.slots.length + 1) c1) (.slice A2 R.free.length cf) (.slice (some ⟨gw, 0, none⟩) R.ways.length cw) := by
    have h := (H2.drewN (1 + m)).setWay (by rw [e1.out]; exact hwl.2) z (k + 1)
    rw [e1.out] at h
    exact h
  have F3 := Asd.mk ((F2.out.drewN (1 + m)).setCell (p := ⟨gw, z, none⟩) (.inl (.inr (.inr (.inr rfl)))) (.int .i64 ((k : Int) + 1)))
  clear H2 F2 cz c3 fw
  generalize (w2.drewN (1 + m)).setCell ⟨gw, z, none⟩ (.int .i64 ((k : Int) + 1)) = w3 at *
  have h1 : w3.cell? ⟨b, 1, none⟩ = some (.slice (some ⟨g1, 0, none⟩) (R.slots.length + 1) c1) := H3.cell 1
  obtain ⟨s0, hs0⟩ : ∃ s, R1.slots[k]? = some s := ⟨_, List.getElem?_eq_getElem (by rw [e3.out]; exact hkl)⟩
  obtain ⟨d0, d1, d2, d3⟩ := H3.slot hs0
  have HS0 := Asd.mk hs0
  clear hs0
  have fg : ∀ i, w3.frozen? ⟨g1, i, none⟩ = false := own_frozen H3.s rfl
  go_wp2_with fail
  have H4 := H3.setSlot (k := k) (by show k < R1.slots.length; rw [e3.out]; exact hkl) ⟨key, n, some 0, some 0⟩
  have F4 := Asd.mk ((((F3.out.setCell (p := ⟨g1, k * 4, none⟩) HG1.out (.string key)).setCell (p := ⟨g1, k * 4 + 1, none⟩) HG1.out (.int .i64 n)).setCell (p := ⟨g1, k * 4 + 2, none⟩) HG1.out (.int .i64 0)).setCell (p := ⟨g1, k * 4 + 3, none⟩) HG1.out (.int .i64 0))
  have hks1 : ∀ a, a ∈ o → R1.slots[a]? = R.slots[a]? := fun a ha => by
    rw [HR1.out]
    show (R.slots ++ [zeroSlot])[a]? = _
    rw [List.getElem?_append_left (P.lnk.lt a ha)]
  have hko : k ∉ o := fun h => by have := P.lnk.lt k h; have := HKK.out; omega
  have PU := P.put (key := key) (n := n) habs (S := R1.slots) (fr := []) (k := k) (by rw [e3.out]; have := P.cnt; have := HF0.out; omega) hks1 (by rw [e3.out]; omega) List.nodup_nil (fun a ha => by simp at ha) hko (by rw [e3.out]; exact hkl) (by rw [e3.out, P.cnt, HF0.out]; simp) hd (by rw [HZZ.out]; exact HZ0.out) hbf
  rw [HZZ.out] at PU
  obtain ⟨p1, p2, p3, p4, p5⟩ := PU
  have LK : Lnk (R1.slots.set k ⟨key, n, some 0, some 0⟩) R1.first R1.last o := by
    have := P.lnk.setNew (T := R1.slots) (k := k) ⟨key, n, some 0, some 0⟩ hks1 (by rw [e3.out]; omega) hko
    have ef : R1.first = R.first := by rw [HR1.out]
    have el : R1.last = R.last := by rw [HR1.out]
    rw [ef, el]
    exact this
  refine (lay_calls _ lo b _ _ _ _ H4 LK (by show (R1.slots.set k _).length ≤ _; rw [List.length_set, e3.out]; have := P.cap; have := P.room; omega) k (by show k < (R1.slots.set k _).length; rw [List.length_set, e3.out]; exact hkl) hko).mono ?_
  rintro e w5 ⟨rfl, H5, F5⟩
  have F6 := F4.out.trans F5 (fun i hi => by
    rcases hi with hi | hi | hi | hi
    · exact .inl (.inl hi)
    · rw [show i = g1 by simpa [Value.ownBlock] using hi.symm]; exact HG1.out
    · exact .inl (.inr (.inr (.inl hi)))
    · exact .inl (.inr (.inr (.inr hi))))
  have HL : Lst R o ++ [(key, n)] = Lst (({ R with slots := R1.slots.set k ⟨key, n, some 0, some 0⟩, free := [], ways := R.ways.set z (k + 1) } : Ring).lay k) (o ++ [k]) := by
    unfold Lst
    rw [List.map_append, List.map_cons, List.map_nil, p4, p5]
    congr 1
    exact List.map_congr_left fun a ha => by rw [p2 a ha, p3 a ha]
  have H5' : RingAt w5 lo b (({ R with slots := R1.slots.set k ⟨key, n, some 0, some 0⟩, free := [], ways := R.ways.set z (k + 1) } : Ring).lay k) (.slice (some ⟨g1, 0, none⟩) (R.slots.length + 1) c1) (.slice A2 R.free.length cf) (.slice (some ⟨gw, 0, none⟩) R.ways.length cw) := by
    have h := H5
    have ef : R1.free = [] := by rw [HR1.out]; exact HFR.out
    have ef1 : R1.first = R.first := by rw [HR1.out]
    have ef2 : R1.last = R.last := by rw [HR1.out]
    have ef3 : R1.room = R.room := by rw [HR1.out]
    rw [ef, ef1, ef2, ef3] at h
    exact h
  clear H5 F5 F4 H4 H3 h1 d0 d1 d2 d3 fg p2 p3 p4 p5
  go_wp2_with fail
  go_ret
  exact ⟨rfl, _, ⟨_, _, _, _, _, H5', p1, rfl, HL.symm, fun _ h => h⟩, fun i hi => by
    rcases hi with hi | hi | hi | hi
    · exact .inl (.inl hi)
    · rw [show i = g1 by simpa [Value.ownBlock] using hi.symm]; exact HG1.out
    · exact .inl (.inr (.inr (.inl hi)))
    · exact .inl (.inr (.inr (.inr hi))), F6⟩
end Go.Proofs.Ytapclgjelekijaa
