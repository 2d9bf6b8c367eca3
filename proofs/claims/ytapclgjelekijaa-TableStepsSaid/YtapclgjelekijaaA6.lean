import Derived.Test.YtapclgjelekijaaA5
import Derived.Deep.DeepCutAuto
import Derived.Deep.CutBlock
import Derived.Deep.RegionHeld3
import Derived.IntWalk
/-! The table's ring: drop. -/
namespace Go.Proofs.Ytapclgjelekijaa
open Go.RowKit

theorem info3 : (Try.prog.info? 3).map (fun i => (i.zero, i.size, i.bytes)) = some (some (.int .i64 0), 1, 8) := by kernel_rfl

theorem RingAt.grownFree {w w2 : World} {lo b : Nat} {R : Ring} {sv fv wv : Value} (H : RingAt w lo b R sv fv wv) (hg : w.grownBy w2 fv.ownBlock) {v1 : Value} {l : List Nat} (hown : w2.ownsRow lo 3 1 v1 l.length (nats l)) (hat : v1.ownBlock = fv.ownBlock ∨ v1.ownBlock = some w.heap.size) :
    RingAt (w2.setCell ⟨b, 2, none⟩ v1) lo b { R with free := l } sv v1 wv ∧ w2.cell? ⟨b, 2, none⟩ = some fv ∧ w2.frozen? ⟨b, 2, none⟩ = false ∧ b < w2.heap.size := by
  have hk : ∀ k, Foot b sv fv wv k → fv.ownBlock ≠ some k → w2.heap[k]? = w.heap[k]? := fun k hk hne => hg.block k (H.foot_lt k hk).2 (fun e => hne e.symm)
  have hb := (hk b (.inl rfl) H.fb).trans H.blk
  have hs : w2.ownsRow lo 68 4 sv R.slots.length (rowOf R.slots) := own_kept H.s fun g hg2 => hk g (.inr (.inl hg2)) (H.sf hg2)
  have hy : w2.ownsRow lo 3 1 wv R.ways.length (nats R.ways) := own_kept H.y fun g hg2 => hk g (.inr (.inr (.inr hg2))) (fun e => H.fy g e hg2)
  refine ⟨⟨heap_set_same w2 b 2 hb _, H.lob, own_far hs H.sb _, own_far hown (fun e => ?_) _, own_far hy H.yb _, fun k hk1 hk2 => ?_⟩, cell_of_row w2 b 2 _ _ _ hb, by simp [World.frozen?, hb], (Array.getElem?_eq_some_iff.1 hb).1⟩
  · obtain ⟨cur, h⟩ := own_obj hown e
    rw [hb] at h
    simp at h
  · rcases hat with h | h
    · exact H.fy k (h ▸ hk1) hk2
    · rw [hk1] at h
      injection h with h
      have := (H.y.lt k hk2).2
      omega

theorem Ring.key_zero {R : Ring} {k a : Nat} (h : a ≠ k) : ({ R with slots := R.slots.set k zeroSlot } : Ring).key a = R.key a := by
  unfold Ring.key
  show (((R.slots.set k zeroSlot)[a]?).map Slot.key).getD _ = _
  rw [List.getElem?_set_ne (fun e => h e.symm)]

set_option maxHeartbeats 8000000 in
theorem drop_calls (w : World) (lo b : Nat) (R : Ring) (o : List Nat) (P : Rep R o) (g c : Nat) (fv : Value) (gw cw : Nat) (H : RingAt w lo b R (.slice (some ⟨g, 0, none⟩) R.slots.length c) fv (.slice (some ⟨gw, 0, none⟩) R.ways.length cw)) (hlo : lo ≤ w.heap.size) (k : Nat) (hk : k ∈ o)
    (hkz : ∀ a, a ∈ o → (R.key a).size ≤ 140737488355328) :
    Calls Try.prog 31 #[.pointer (some ⟨b, 0, none⟩), .int .i64 (k : Int)] w (TabPost w lo b R.room (Foot b (.slice (some ⟨g, 0, none⟩) R.slots.length c) fv (.slice (some ⟨gw, 0, none⟩) R.ways.length cw)) (.tuple #[]) (without (Lst R o) (R.key k))) := by
  obtain ⟨A2, cf, hfv⟩ := own_any H.f
  subst hfv
  have hkl := P.lnk.lt k hk
  have hsl := P.slots_le
  have hwl := P.ways_le
  have hfl : R.free.length ≤ 100000 := by have := P.cnt; omega
  obtain ⟨s0, hs0⟩ : ∃ s, R.slots[k]? = some s := ⟨_, List.getElem?_eq_getElem hkl⟩
  have hkey : R.key k = s0.key := by unfold Ring.key; rw [hs0]; rfl
  have h1 : w.cell? ⟨b, 1, none⟩ = some (.slice (some ⟨g, 0, none⟩) R.slots.length c) := H.cell 1
  obtain ⟨d0, d1, d2, d3⟩ := H.slot hs0
  rw [← hkey] at d0
  clear hkey hs0 d1 d2 d3
  obtain ⟨p, hp, hpk, hpr⟩ := P.found hk
  have HP := Asd.mk (And.intro hpk hpr)
  clear hpk hpr
  obtain ⟨i0, hi, hz0, hz1, hz2⟩ := info_parts info3
  go_enter Try.func31, Try.ntmps31
  go_wp2_with fail
  refine (at_calls w lo b R _ _ _ H P.ways_lt hsl hwl.1 hwl.2 (R.key k) (hkz k hk) _ p HP.out.2).mono ?_
  rintro e w' ⟨rfl, m0, rfl⟩
  have H1 := H.drewN m0
  have F1 := Asd.mk ((Fr.refl (Foot b (.slice (some ⟨g, 0, none⟩) R.slots.length c) (.slice A2 R.free.length cf) (.slice (some ⟨gw, 0, none⟩) R.ways.length cw)) w).drewN m0)
  have hlo1 : lo ≤ (w.drewN m0).heap.size := hlo
  clear h1 d0
  generalize w.drewN m0 = w1 at H1 F1 hlo1 ⊢
  go_wp2_with fail
  refine (cut_calls w1 lo b R _ _ _ H1 P.lnk hsl k hk).mono ?_
  rintro e w2 ⟨rfl, H2, F2⟩
  have F3 := Asd.mk (F1.out.trans F2 (fun i hi => .inl hi))
  have hlo2 : lo ≤ w2.heap.size := Nat.le_trans hlo1 F2.size
  clear H1 F1 F2 hlo1
  obtain ⟨R1, hR1⟩ : ∃ R1, R1 = R.cut k := ⟨_, rfl⟩
  rw [← hR1] at H2
  have q1 : Asd (R1.slots.length = R.slots.length ∧ R1.free = R.free ∧ R1.ways = R.ways ∧ R1.room = R.room) := ⟨by
    rw [hR1]; unfold Ring.cut; split
    · exact ⟨rfl, rfl, rfl, rfl⟩
    · exact ⟨cutS_length _ _, rfl, rfl, rfl⟩⟩
  have HR1 := Asd.mk hR1
  clear hR1
  have h1 : w2.cell? ⟨b, 1, none⟩ = some (.slice (some ⟨g, 0, none⟩) R.slots.length c) := H2.cell 1
  obtain ⟨s1, hs1⟩ : ∃ s, R1.slots[k]? = some s := ⟨_, List.getElem?_eq_getElem (by rw [q1.out.1]; exact hkl)⟩
  obtain ⟨d0, d1, d2, d3⟩ := H2.slot hs1
  clear hs1
  have fg : ∀ i, w2.frozen? ⟨g, i, none⟩ = false := own_frozen H2.s rfl
  have hb2 : b < w2.heap.size := (H2.foot_lt b (.inl rfl)).2
  have hbg : b ≠ g := fun e => H2.sb (by rw [e]; rfl)
  have h2 : w2.cell? ⟨b, 2, none⟩ = some (.slice A2 R.free.length cf) := H2.cell 2
  have H3 : RingAt ((((w2.setCell ⟨g, k * 4, none⟩ (.string ⟨#[]⟩)).setCell ⟨g, k * 4 + 1, none⟩ (.int .i64 0)).setCell ⟨g, k * 4 + 2, none⟩ (.int .i64 0)).setCell ⟨g, k * 4 + 3, none⟩ (.int .i64 0)) lo b { R1 with slots := R1.slots.set k zeroSlot } (.slice (some ⟨g, 0, none⟩) R.slots.length c) (.slice A2 R.free.length cf) (.slice (some ⟨gw, 0, none⟩) R.ways.length cw) := H2.setSlot (k := k) (by rw [q1.out.1]; exact hkl) zeroSlot
  have F4 := Asd.mk ((((F3.out.setCell (p := ⟨g, k * 4, none⟩) (.inl (.inr (.inl rfl))) (.string ⟨#[]⟩)).setCell (p := ⟨g, k * 4 + 1, none⟩) (.inl (.inr (.inl rfl))) (.int .i64 0)).setCell (p := ⟨g, k * 4 + 2, none⟩) (.inl (.inr (.inl rfl))) (.int .i64 0)).setCell (p := ⟨g, k * 4 + 3, none⟩) (.inl (.inr (.inl rfl))) (.int .i64 0))
  go_upto_region 3 with (fail)
  have hlo3 : lo ≤ ((((w2.setCell ⟨g, k * 4, none⟩ (.string ⟨#[]⟩)).setCell ⟨g, k * 4 + 1, none⟩ (.int .i64 0)).setCell ⟨g, k * 4 + 2, none⟩ (.int .i64 0)).setCell ⟨g, k * 4 + 3, none⟩ (.int .i64 0)).heap.size := by simpa using hlo2
  obtain ⟨R2, hR2⟩ : ∃ R2 : Ring, R2 = { R1 with slots := R1.slots.set k zeroSlot } := ⟨_, rfl⟩
  rw [← hR2] at H3
  have q2 : Asd (R2.slots.length = R.slots.length ∧ R2.free = R.free ∧ R2.ways = R.ways ∧ R2.room = R.room) := ⟨by
    rw [hR2]; exact ⟨by show (R1.slots.set k zeroSlot).length = _; rw [List.length_set]; exact q1.out.1, q1.out.2⟩⟩
  have HR2 := Asd.mk hR2
  clear hR2 h1 d0 d1 d2 d3 fg hb2 h2 hlo2 H2 F3
  generalize (((w2.setCell ⟨g, k * 4, none⟩ (.string ⟨#[]⟩)).setCell ⟨g, k * 4 + 1, none⟩ (.int .i64 0)).setCell ⟨g, k * 4 + 2, none⟩ (.int .i64 0)).setCell ⟨g, k * 4 + 3, none⟩ (.int .i64 0) = w3 at *
  have H3' : RingAt w3 lo b R2 (.slice (some ⟨g, 0, none⟩) R.slots.length c) (.slice A2 R.free.length cf) (.slice (some ⟨gw, 0, none⟩) R.ways.length cw) := H3
  clear H3
  have hown3 : ∀ x, (w3.alloc x).ownsRow lo 3 1 (.slice A2 R.free.length cf) R.free.length (nats R.free) := fun x => by
    have h := (H3'.alloc x).f
    rw [q2.out.2.1] at h
    exact h
  have HO3 := Asd.mk hown3
  clear hown3
  have h2 : w3.cell? ⟨b, 2, none⟩ = some (.slice A2 R.free.length cf) := H3'.cell 2
  have hb3 : b < w3.heap.size := (H3'.foot_lt b (.inl rfl)).2
  have h3 : w3.cell? ⟨b, 3, none⟩ = some (.slice (some ⟨gw, 0, none⟩) R.ways.length cw) := H3'.cell 3
  have hl3 : lo < w3.heap.size + 1 := by omega
  have HK : Asd (∀ (w4 : World) (v1 : Value), w4.ownsRow lo 3 1 v1 (R.free.length + 1) (nats R.free ++ [.int .i64 (k : Int)]) → (w3.alloc (.cells #[.int .i64 (k : Int)] 3)).grownBy w4 (Value.ownBlock (.slice A2 R.free.length cf)) → (v1.ownBlock = Value.ownBlock (.slice A2 R.free.length cf) ∨ v1.ownBlock = some (w3.heap.size + 1)) →
      RingAt (w4.setCell ⟨b, 2, none⟩ v1) lo b { R2 with free := R.free ++ [k] } (.slice (some ⟨g, 0, none⟩) R.slots.length c) v1 (.slice (some ⟨gw, 0, none⟩) R.ways.length cw) ∧ w4.cell? ⟨b, 2, none⟩ = some (.slice A2 R.free.length cf) ∧ w4.frozen? ⟨b, 2, none⟩ = false ∧ b < w4.heap.size ∧
      (∀ i, v1.ownBlock = some i → Foot b (.slice (some ⟨g, 0, none⟩) R.slots.length c) (.slice A2 R.free.length cf) (.slice (some ⟨gw, 0, none⟩) R.ways.length cw) i ∨ w.heap.size ≤ i) ∧
      Fr (Foot b (.slice (some ⟨g, 0, none⟩) R.slots.length c) (.slice A2 R.free.length cf) (.slice (some ⟨gw, 0, none⟩) R.ways.length cw)) w (w4.setCell ⟨b, 2, none⟩ v1)) := ⟨fun w4 v1 hown hg hat => by
    obtain ⟨a1, a2, a3, a4⟩ := RingAt.grownFree (H3'.alloc (.cells #[.int .i64 (k : Int)] 3)) hg (l := R.free ++ [k]) (by rw [List.length_append]; unfold nats at hown ⊢; rw [List.map_append]; exact hown) (by simpa using hat)
    refine ⟨a1, a2, a3, a4, fun i hi => ?_, ((F4.out.alloc _).grown hg (fun i hi => .inl (.inr (.inr (.inl hi))))).setCell (p := ⟨b, 2, none⟩) (.inl (.inl rfl)) _⟩
    rcases hat with h | h
    · exact .inl (.inr (.inr (.inl (h ▸ hi))))
    · rw [hi] at h
      injection h with h
      have := F4.out.size
      right
      omega⟩
  go_upto_region 4 with (at_builtin; refine wpList_append_own_at _ rfl _ _ 60 rfl lo 3 i0 (.int .i64 0) 1 8 Try.underlying60 hi hz0 hz1 hz2 rfl (by decide) _ R.free.length _ rfl (HO3.out _) ⟨w3.heap.size, 0, none⟩ 1 1 [.int .i64 (k : Int)] rfl rfl (World.news_of_block (cs := #[.int .i64 (k : Int)]) (t := 3) (fr := (0, 0)) (heap_alloc_new _ _)) (by simp [Value.oneCell']) (by simp only [maxLen]; omega) (by omega) (by simp; omega) ?_; intro v1 w4 hown hg _ hat; obtain ⟨gf1, cf1, rfl, hgf1⟩ := own_form hown (by omega); obtain ⟨a1, a2, a3, a4, a5, a6⟩ := HK.out _ _ hown hg (hat.imp (fun h => h) (fun h => h.trans (by simp))); have A5 := Asd.mk a5; clear a5 hown hg hat hgf1)
  have H4 : RingAt (w4.setCell ⟨b, 2, none⟩ (.slice (some ⟨gf1, 0, none⟩) (R.free.length + 1) cf1)) lo b { R2 with free := R.free ++ [k] } (.slice (some ⟨g, 0, none⟩) R.slots.length c) (.slice (some ⟨gf1, 0, none⟩) (R.free.length + 1) cf1) (.slice (some ⟨gw, 0, none⟩) R.ways.length cw) := a1
  have F5 := Asd.mk a6
  clear a1 a2 a3 a4 a6 HK HO3 h2 h3 hb3 hl3 F4
  generalize w4.setCell ⟨b, 2, none⟩ (.slice (some ⟨gf1, 0, none⟩) (R.free.length + 1) cf1) = w5 at *
  have h3 : w5.cell? ⟨b, 3, none⟩ = some (.slice (some ⟨gw, 0, none⟩) R.ways.length cw) := H4.cell 3
  have cp : w5.cell? ⟨gw, p, none⟩ = some (.int .i64 ((k : Int) + 1)) := H4.way (by show R2.ways[p]? = _; rw [q2.out.2.2.1]; exact HP.out.1)
  have fw : ∀ i, w5.frozen? ⟨gw, i, none⟩ = false := own_frozen H4.y rfl
  have hbw : b ≠ gw := fun e => H4.yb (by rw [e]; rfl)
  go_upto_region 5 with (fail)
  have H5 : RingAt (w5.setCell ⟨gw, p, none⟩ (.int .i64 0)) lo b { R2 with free := R.free ++ [k], ways := R.ways.set p 0 } (.slice (some ⟨g, 0, none⟩) R.slots.length c) (.slice (some ⟨gf1, 0, none⟩) (R.free.length + 1) cf1) (.slice (some ⟨gw, 0, none⟩) R.ways.length cw) := by
    have h := H4.setWay (by show 0 < R2.ways.length; rw [q2.out.2.2.1]; exact hwl.2) p 0
    have e : ({ R2 with free := R.free ++ [k], ways := R2.ways.set p 0 } : Ring) = { R2 with free := R.free ++ [k], ways := R.ways.set p 0 } := by rw [q2.out.2.2.1]
    rw [← e]
    exact h
  have F6 := Asd.mk (F5.out.setCell (p := ⟨gw, p, none⟩) (.inl (.inr (.inr (.inr rfl)))) (.int .i64 0))
  clear H4 h3 cp fw F5
  generalize w5.setCell ⟨gw, p, none⟩ (.int .i64 0) = w6 at *
  have h3 : w6.cell? ⟨b, 3, none⟩ = some (.slice (some ⟨gw, 0, none⟩) R.ways.length cw) := H5.cell 3
  go_wp2_with fail
  obtain ⟨D, hD0, hDN, hDz, hDy⟩ := P.gap HP.out.1
  obtain ⟨D', rfl⟩ : ∃ D', D = D' + 1 := ⟨D - 1, by omega⟩
  have hκ : ∀ a, a ∈ o → a ≠ k → R2.key a = R.key a := fun a _ hak => by
    rw [HR2.out, Ring.key_zero hak, HR1.out]; exact Ring.cut_key R k a
  have HM := Asd.mk (P.wy.mid (κ' := R2.key) HP.out.1 hκ P.lnk.nd (D := D' + 1) hDz)
  have HDZ := Asd.mk hDz
  have HDY := Asd.mk hDy
  have HKA := Asd.mk hκ
  clear hDz hDy hκ h3
  go_loopg [5] D' (fun kq v5 wr => ∃ (x : Nat) (W : List Nat), v5 = .int .i64 (((p + x) % R.ways.length : Nat) : Int) ∧ Asd (kq + x = D' + 1 ∧ 0 < x ∧ Mid hsum R.ways p (D' + 1) W R2.key (o.erase k) x) ∧
    Asd (RingAt wr lo b { R2 with free := R.free ++ [k], ways := W } (.slice (some ⟨g, 0, none⟩) R.slots.length c) (.slice (some ⟨gf1, 0, none⟩) (R.free.length + 1) cf1) (.slice (some ⟨gw, 0, none⟩) R.ways.length cw)) ∧
    Asd (Fr (Foot b (.slice (some ⟨g, 0, none⟩) R.slots.length c) (.slice A2 R.free.length cf) (.slice (some ⟨gw, 0, none⟩) R.ways.length cw)) w wr))
  case atStart => exact ⟨1, R.ways.set p 0, by (rw [Value.int.injEq]; refine ⟨rfl, ?_⟩; rw [Int.natCast_emod]; rfl), ⟨by omega, by omega, HM.out⟩, ⟨H5⟩, F6⟩
  case round =>
    clear H5 F6 HM
    obtain ⟨x, W, rfl, HX, HR, HF⟩ := hrel
    obtain ⟨hx1, hx2, hM⟩ := HX.out
    clear HX
    have hWl : W.length = R.ways.length := hM.len
    have hjl : (p + x) % R.ways.length < R.ways.length := Nat.mod_lt _ hwl.2
    have h3 : wr.cell? ⟨b, 3, none⟩ = some (.slice (some ⟨gw, 0, none⟩) R.ways.length cw) := HR.out.cell 3
    have hold := hM.old x (Nat.le_refl _) (by omega)
    rw [hWl] at hold
    have HM := Asd.mk hM
    have HWL := Asd.mk hWl
    clear hM hWl
    cases gk with
    | zero =>
      obtain rfl : x = D' + 1 := by omega
      have c1 : wr.cell? ⟨gw, (p + (D' + 1)) % R.ways.length, none⟩ = some (.int .i64 0) := HR.out.way (R := { R2 with free := R.free ++ [k], ways := W }) (x := 0) (by show W[_]? = _; rw [hold]; exact HDZ.out)
      clear hold
      generalize (p + (D' + 1)) % R.ways.length = j at *
      go_wp2
      go_end0
      have e2 := HR2.out
      rw [HR1.out] at e2
      have hwy := HM.out.done
      obtain ⟨g1, g2, g3⟩ := P.drop hk (W := W) HWL.out (by rw [e2] at hwy; exact hwy)
      have HR' := HR.out
      rw [e2] at HR'
      have hrm : (R.cut k).room = R.room := by unfold Ring.cut; split <;> rfl
      refine ⟨rfl, _, ⟨_, _, _, _, _, HR', g1, hrm, ?_, fun _ h => h⟩, fun i hi => ?_, HF.out⟩
      · rw [← Lst_without P hk]
        unfold Lst
        exact List.map_congr_left fun a ha => by rw [g2 a ha, g3 a ha]
      · rcases hi with hi | hi | hi | hi
        · exact .inl (.inl hi)
        · exact .inl (.inr (.inl hi))
        · exact A5.out i hi
        · exact .inl (.inr (.inr (.inr hi)))
    | succ k1 =>
      obtain ⟨m, hm⟩ := HDY.out x hx2 (by omega)
      rw [hm] at hold
      obtain ⟨z, hz1', hz2', hzh, hM2⟩ := HM.out.step (by omega) hx2 (by rw [HWL.out]; exact hDN) (by rw [HWL.out]; exact HDZ.out) (k := m) (by rw [HWL.out]; exact hold)
      rw [HWL.out] at hz1' hz2' hM2 hzh
      have c1 : wr.cell? ⟨gw, (p + x) % R.ways.length, none⟩ = some (.int .i64 ((m : Int) + 1)) := HR.out.way (R := { R2 with free := R.free ++ [k], ways := W }) (x := m + 1) (by show W[_]? = _; rw [hold])
      have hmo := HM.out.mem _ _ hold
      have fw : ∀ i, wr.frozen? ⟨gw, i, none⟩ = false := own_frozen HR.out.y rfl
      rw [erase_mem P.lnk.nd] at hmo
      have HMO := Asd.mk hmo
      have HJ : Asd ((p + x) % R.ways.length = (p + x) % R.ways.length ∧ ((p + x) % R.ways.length + 1) % R.ways.length = (p + (x + 1)) % R.ways.length) := ⟨rfl, mod_succ p x R.ways.length⟩
      have HZ := Asd.mk (And.intro hz1' hM2)
      have HZH := Asd.mk hzh
      clear hold hm hz1' hM2 hzh hmo HM
      generalize (p + x) % R.ways.length = j at *
      have hmb : (((m : Int) + 1) != 0) = true := by rw [bne_iff_ne]; omega
      go_upto_region 10 with (fail)
      have H7 : RingAt (wr.setCell ⟨gw, j, none⟩ (.int .i64 0)) lo b { R2 with free := R.free ++ [k], ways := W.set j 0 } (.slice (some ⟨g, 0, none⟩) R.slots.length c) (.slice (some ⟨gf1, 0, none⟩) (R.free.length + 1) cf1) (.slice (some ⟨gw, 0, none⟩) R.ways.length cw) :=
        HR.out.setWay (by show 0 < W.length; rw [HWL.out]; exact hwl.2) j 0
      have F7 := Asd.mk (HF.out.setCell (p := ⟨gw, j, none⟩) (.inl (.inr (.inr (.inr rfl)))) (.int .i64 0))
      clear HR HF c1 fw h3 hmb
      generalize wr.setCell ⟨gw, j, none⟩ (.int .i64 0) = w7 at *
      have hml : m < R.slots.length := P.lnk.lt m HMO.out.2
      obtain ⟨sm, hsm⟩ : ∃ s, R2.slots[m]? = some s := ⟨_, List.getElem?_eq_getElem (by rw [q2.out.1]; exact hml)⟩
      have hsk : R2.key m = sm.key := by unfold Ring.key; rw [hsm]; rfl
      have h3 : w7.cell? ⟨b, 3, none⟩ = some (.slice (some ⟨gw, 0, none⟩) R.ways.length cw) := H7.cell 3
      have h1 : w7.cell? ⟨b, 1, none⟩ = some (.slice (some ⟨g, 0, none⟩) R.slots.length c) := H7.cell 1
      obtain ⟨d0, _, _, _⟩ := H7.slot (R := { R2 with free := R.free ++ [k], ways := W.set j 0 }) hsm
      rw [← hsk] at d0
      have fw : ∀ i, w7.frozen? ⟨gw, i, none⟩ = false := own_frozen H7.y rfl
      have cz : w7.cell? ⟨gw, z, none⟩ = some (.int .i64 0) := H7.way (R := { R2 with free := R.free ++ [k], ways := W.set j 0 }) (x := 0) HZH.out
      have hszk : (R2.key m).size ≤ 140737488355328 := by rw [HKA.out m HMO.out.2 HMO.out.1]; exact hkz m HMO.out.2
      have HAT : Asd (∀ W', RingAt W' lo b { R2 with free := R.free ++ [k], ways := W.set j 0 } (.slice (some ⟨g, 0, none⟩) R.slots.length c) (.slice (some ⟨gf1, 0, none⟩) (R.free.length + 1) cf1) (.slice (some ⟨gw, 0, none⟩) R.ways.length cw) → Calls Try.prog 37 #[.pointer (some ⟨b, 0, none⟩), .string (R2.key m)] W' fun e w' => e = .returned (.int .i64 (z : Int)) ∧ ∃ m, w' = W'.drewN m) := ⟨fun W' HW' =>
        at_calls W' lo b { R2 with free := R.free ++ [k], ways := W.set j 0 } _ _ _ HW' (fun q a hq => by
          show a < R2.slots.length
          rw [q2.out.1]
          have hq : (W.set j 0)[q]? = some (a + 1) := hq
          by_cases hqz : q = z
          · subst hqz
            rw [HZH.out] at hq
            simp at hq
          · have h2 := HZ.out.2.mem q a (by rw [List.getElem?_set_ne (fun e => hqz e.symm)]; exact hq)
            rw [erase_mem P.lnk.nd] at h2
            exact P.lnk.lt a h2.2) (by show R2.slots.length ≤ _; rw [q2.out.1]; exact hsl) (by show (W.set j 0).length ≤ _; rw [List.length_set, HWL.out]; exact hwl.1) (by show 0 < (W.set j 0).length; rw [List.length_set, HWL.out]; exact hwl.2) (R2.key m) hszk R.ways.length z (by
          show probe (W.set j 0) R2.key (R2.key m) R.ways.length (hsum (R2.key m) % (W.set j 0).length) = _
          rw [List.length_set, HWL.out]; exact HZ.out.1)⟩
      clear hsm hsk
      have hm1 : IntKind.i64.wrap ((m : Int) + 1 - 1) = (m : Int) := by rw [show (m : Int) + 1 - 1 = m by omega]; exact IntWalk.i64_in _ (by omega)
      have hm2 : IntKind.i64.wrap (m : Int) = (m : Int) := IntWalk.i64_in _ (by omega)
      have hgwb : gw ≠ b := fun e => hbw e.symm
      have hgwg : gw ≠ g := fun e => H7.sy rfl (by rw [e]; rfl)
      go_region_held3 (fun w' => w'.cell? ⟨b, 3, none⟩ = some (.slice (some ⟨gw, 0, none⟩) R.ways.length cw) ∧ w'.cell? ⟨b, 1, none⟩ = some (.slice (some ⟨g, 0, none⟩) R.slots.length c) ∧ w'.cell? ⟨g, m * 4, none⟩ = some (.string (R2.key m)))
        (first | exact ⟨h3, h1, d0⟩ | exact ⟨(World.cell?_setCell_other _ _ _ _ (fun e => hgwb (congrArg Addr.block e))).trans h3, (World.cell?_setCell_other _ _ _ _ (fun e => hgwb (congrArg Addr.block e))).trans h1, (World.cell?_setCell_other _ _ _ _ (fun e => hgwg (congrArg Addr.block e))).trans d0⟩ | fail)
        (first | (go_at_call 37; refine (HAT.out _ H7.drew).mono ?_; rintro e w' ⟨rfl, md, rfl⟩))
      clear hm1 hm2
      have H8 : RingAt ((w7.drewN (1 + md)).setCell ⟨gw, z, none⟩ (.int .i64 ((m : Int) + 1))) lo b { R2 with free := R.free ++ [k], ways := (W.set j 0).set z (m + 1) } (.slice (some ⟨g, 0, none⟩) R.slots.length c) (.slice (some ⟨gf1, 0, none⟩) (R.free.length + 1) cf1) (.slice (some ⟨gw, 0, none⟩) R.ways.length cw) :=
        (H7.drewN (1 + md)).setWay (by show 0 < (W.set j 0).length; rw [List.length_set, HWL.out]; exact hwl.2) z (m + 1)
      have F8 := Asd.mk ((F7.out.drewN (1 + md)).setCell (p := ⟨gw, z, none⟩) (.inl (.inr (.inr (.inr rfl)))) (.int .i64 ((m : Int) + 1)))
      clear H7 F7 h3 h1 d0 fw cz
      generalize (w7.drewN (1 + md)).setCell ⟨gw, z, none⟩ (.int .i64 ((m : Int) + 1)) = w8 at *
      have h3 : w8.cell? ⟨b, 3, none⟩ = some (.slice (some ⟨gw, 0, none⟩) R.ways.length cw) := H8.cell 3
      go_wp2_with fail
      go_roundg k1
      case measure => omega
      case rel => exact ⟨x + 1, (W.set j 0).set z (m + 1), by (rw [Value.int.injEq]; refine ⟨rfl, ?_⟩; rw [← HJ.out.2, Int.natCast_emod]; rfl), ⟨by omega, by omega, HZ.out.2⟩, ⟨H8⟩, F8⟩
end Go.Proofs.Ytapclgjelekijaa
