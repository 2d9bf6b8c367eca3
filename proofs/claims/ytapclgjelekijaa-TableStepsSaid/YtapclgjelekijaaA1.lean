import Derived.Test.YtapclgjelekijaaA0
import Derived.Deep.QuietTactic
import Derived.BigQuiet
import Derived.BigRegion
import Derived.Laws.Rows
import Derived.Outline
/-! The table's ring: what cut, lay, touch, count do in memory. -/
namespace Go.Proofs.Ytapclgjelekijaa
open Go.RowKit

theorem RingAt.n_eq {w : World} {lo b : Nat} {R : Ring} {g n c : Nat} {fv wv : Value} (H : RingAt w lo b R (.slice (some ⟨g, 0, none⟩) n c) fv wv) (h : 0 < R.slots.length) : n = R.slots.length := by
  obtain ⟨_, _, he, _⟩ := own_form H.s h
  injection he
theorem lk_none_eq (o : Option Nat) : ((lk o == -1) = true ↔ o = none) := by
  cases o with
  | none => simp [lk]
  | some k => simp [lk]

theorem modify_modify (S : List Slot) (k : Nat) (f g : Slot → Slot) : (S.modify k f).modify k g = S.modify k (fun t => g (f t)) := by
  apply List.ext_getElem?
  intro i
  simp only [List.getElem?_modify]
  cases S[i]? with
  | none => rfl
  | some t => by_cases h : k = i <;> simp [h]

set_option maxHeartbeats 2000000 in
theorem cut_calls0 (w : World) (lo b : Nat) (R : Ring) (g n c : Nat) (fv wv : Value) (H : RingAt w lo b R (.slice (some ⟨g, 0, none⟩) n c) fv wv) (k : Nat) (s : Slot) (hs : R.slots[k]? = some s) (hn : n ≤ 100000) (hkn : k < n)
   (hp : ∀ p, s.prev = some p → p < n) (hx : ∀ q, s.next = some q → q < n) :
  Calls Try.prog 40 #[.pointer (some ⟨b, 0, none⟩), .int .i64 (k : Int)] w fun e w' => e = .returned (.tuple #[]) ∧ RingAt w' lo b (R.cut k) (.slice (some ⟨g, 0, none⟩) n c) fv wv ∧ Fr (Foot b (.slice (some ⟨g, 0, none⟩) n c) fv wv) w w' := by
  have h1 : w.cell? ⟨b, 1, none⟩ = some (.slice (some ⟨g, 0, none⟩) n c) := H.cell 1
  obtain ⟨c0, c1, c2, c3⟩ := H.slot hs
  have h4 : w.cell? ⟨b, 4, none⟩ = some (.int .i64 (lk R.first)) := H.cell 4
  have h5 : w.cell? ⟨b, 5, none⟩ = some (.int .i64 (lk R.last)) := H.cell 5
  have hb : b < w.heap.size := (H.foot_lt b (.inl rfl)).2
  have hg : g < w.heap.size := (H.foot_lt g (.inr (.inl rfl))).2
  have hbg : b ≠ g := fun e => H.sb (by rw [e]; rfl)
  have fb := H.frozen
  have fg : ∀ i, w.frozen? ⟨g, i, none⟩ = false := own_frozen H.s rfl
  have HN := Asd.mk (H.n_eq (by have := (List.getElem?_eq_some_iff.1 hs).1; omega))
  have HC := Asd.mk (Ring.cut_some hs)
  have HF : Foot b (.slice (some ⟨g, 0, none⟩) n c) fv wv b := .inl rfl
  have HG : Foot b (.slice (some ⟨g, 0, none⟩) n c) fv wv g := .inr (.inl rfl)
  have HP := Asd.mk hp
  have HX := Asd.mk hx
  have some_at : ∀ (S : List Slot), S.length = R.slots.length → ∀ q, q < n → ∃ s, S[q]? = some s := fun S hS q hq => ⟨_, List.getElem?_eq_getElem (by have := HN.out; omega)⟩
  have SA := Asd.mk some_at
  clear some_at
  rcases hpv : s.prev with _ | p <;> rcases hnx : s.next with _ | q
  · rw [hpv] at c2
    rw [hnx] at c3
    simp only [lk] at c2 c3
    have HE := Asd.mk hpv
    have HE2 := Asd.mk hnx
    clear hs hp hx hpv hnx
    go_enter Try.func40, Try.ntmps40
    go_wp2
    go_end0
    refine ⟨rfl, ?_, ((((Fr.refl _ w).setCell (.inl HF) _).setCell (.inl HF) _).alloc _)⟩
    have := ((H.setFirst none).setLast none).alloc (Obj.cells #[Value.string s.key, Value.int IntKind.i64 s.v, Value.int IntKind.i64 (-1), Value.int IntKind.i64 (-1)] 68)
    rw [HC.out]
    unfold cutS cutFirst cutLast
    rw [HE.out, HE2.out]
    exact this
  · rw [hpv] at c2
    rw [hnx] at c3
    simp only [lk] at c2 c3
    have hqn : q < n := HX.out q hnx
    have hqb : ((q : Int) == -1) = false := by simp
    obtain ⟨sq, hsq⟩ := SA.out R.slots rfl q hqn
    obtain ⟨d0, d1, d2, d3⟩ := H.slot hsq
    have HE := Asd.mk hpv
    have HE2 := Asd.mk hnx
    have HSQ := Asd.mk hsq
    clear hs hp hx hpv hnx hsq
    go_enter Try.func40, Try.ntmps40
    go_wp2
    go_region
    go_wp2
    go_end0
    refine ⟨rfl, ?_, ((((Fr.refl _ w).setCell (.inl HF) _).setCell (.inl HG) _).alloc _).drew⟩
    have := (((H.setFirst (some q)).setField HSQ.out 2 (by omega) (.int .i64 (-1)) (fun t => { t with prev := none }) rfl).alloc (Obj.cells #[Value.string s.key, Value.int IntKind.i64 s.v, Value.int IntKind.i64 (-1), Value.int IntKind.i64 (q : Int)] 68)).drew
    rw [HC.out]
    unfold cutS cutFirst cutLast
    rw [HE.out, HE2.out]
    exact this
  · rw [hpv] at c2
    rw [hnx] at c3
    simp only [lk] at c2 c3
    have hpn : p < n := HP.out p hpv
    have hpb : ((p : Int) == -1) = false := by simp
    obtain ⟨sp, hsp⟩ := SA.out R.slots rfl p hpn
    obtain ⟨e0, e1, e2, e3⟩ := H.slot hsp
    have HE := Asd.mk hpv
    have HE2 := Asd.mk hnx
    have HSP := Asd.mk hsp
    clear hs hp hx hpv hnx hsp
    go_enter Try.func40, Try.ntmps40
    go_wp2
    go_region
    go_wp2
    go_end0
    refine ⟨rfl, ?_, ((((Fr.refl _ w).setCell (.inl HG) _).setCell (.inl HF) _).alloc _).drew⟩
    have := (((H.setField HSP.out 3 (by omega) (.int .i64 (-1)) (fun t => { t with next := none }) rfl).setLast (some p)).alloc (Obj.cells #[Value.string s.key, Value.int IntKind.i64 s.v, Value.int IntKind.i64 (p : Int), Value.int IntKind.i64 (-1)] 68)).drew
    rw [HC.out]
    unfold cutS cutFirst cutLast
    rw [HE.out, HE2.out]
    exact this
  · rw [hpv] at c2
    rw [hnx] at c3
    simp only [lk] at c2 c3
    have hqn : q < n := HX.out q hnx
    have hqb : ((q : Int) == -1) = false := by simp
    obtain ⟨sq, hsq⟩ := SA.out R.slots rfl q hqn
    obtain ⟨d0, d1, d2, d3⟩ := H.slot hsq
    have hpn : p < n := HP.out p hpv
    have hpb : ((p : Int) == -1) = false := by simp
    obtain ⟨sp, hsp⟩ := SA.out R.slots rfl p hpn
    obtain ⟨e0, e1, e2, e3⟩ := H.slot hsp
    have HE := Asd.mk hpv
    have HE2 := Asd.mk hnx
    have HSP := Asd.mk hsp
    clear hs hp hx hpv hnx hsq hsp
    go_enter Try.func40, Try.ntmps40
    go_wp2
    go_region
    go_wp2
    go_region
    go_wp2
    go_end0
    refine ⟨rfl, ?_, ((((Fr.refl _ w).setCell (.inl HG) _).setCell (.inl HG) _).alloc _).drew.drew⟩
    have h1 := H.setField HSP.out 3 (by omega) (.int .i64 (q : Int)) (fun t => { t with next := some q }) rfl
    obtain ⟨sq2, hsq2⟩ := SA.out (R.slots.modify p fun t => { t with next := some q }) (by simp) q hqn
    have := ((h1.setField hsq2 2 (by omega) (.int .i64 (p : Int)) (fun t => { t with prev := some p }) rfl).alloc (Obj.cells #[Value.string s.key, Value.int IntKind.i64 s.v, Value.int IntKind.i64 (p : Int), Value.int IntKind.i64 (q : Int)] 68)).drew.drew
    rw [HC.out]
    unfold cutS cutFirst cutLast
    rw [HE.out, HE2.out]
    exact this

set_option maxHeartbeats 2000000 in
theorem lay_calls0 (w : World) (lo b : Nat) (R : Ring) (g n c : Nat) (fv wv : Value) (H : RingAt w lo b R (.slice (some ⟨g, 0, none⟩) n c) fv wv) (k : Nat) (s : Slot) (hs : R.slots[k]? = some s) (hn : n ≤ 100000) (hkn : k < n)
   (hl : ∀ p, R.last = some p → p < n ∧ p ≠ k) :
  Calls Try.prog 39 #[.pointer (some ⟨b, 0, none⟩), .int .i64 (k : Int)] w fun e w' => e = .returned (.tuple #[]) ∧ RingAt w' lo b (R.lay k) (.slice (some ⟨g, 0, none⟩) n c) fv wv ∧ Fr (Foot b (.slice (some ⟨g, 0, none⟩) n c) fv wv) w w' := by
  have h1 : w.cell? ⟨b, 1, none⟩ = some (.slice (some ⟨g, 0, none⟩) n c) := H.cell 1
  obtain ⟨c0, c1, c2, c3⟩ := H.slot hs
  have h4 : w.cell? ⟨b, 4, none⟩ = some (.int .i64 (lk R.first)) := H.cell 4
  have h5 : w.cell? ⟨b, 5, none⟩ = some (.int .i64 (lk R.last)) := H.cell 5
  have hb : b < w.heap.size := (H.foot_lt b (.inl rfl)).2
  have hg : g < w.heap.size := (H.foot_lt g (.inr (.inl rfl))).2
  have hbg : b ≠ g := fun e => H.sb (by rw [e]; rfl)
  have fb := H.frozen
  have fg : ∀ i, w.frozen? ⟨g, i, none⟩ = false := own_frozen H.s rfl
  have HN := Asd.mk (H.n_eq (by have := (List.getElem?_eq_some_iff.1 hs).1; omega))
  have HF : Foot b (.slice (some ⟨g, 0, none⟩) n c) fv wv b := .inl rfl
  have HG : Foot b (.slice (some ⟨g, 0, none⟩) n c) fv wv g := .inr (.inl rfl)
  have HL := Asd.mk hl
  have HS := Asd.mk hs
  have SA : Asd (∀ (S : List Slot), S.length = R.slots.length → ∀ q, q < n → ∃ s, S[q]? = some s) := ⟨fun S hS q hq => ⟨_, List.getElem?_eq_getElem (by have := HN.out; omega)⟩⟩
  rcases hla : R.last with _ | p
  · rw [hla] at h5
    simp only [lk] at h5
    have HE := Asd.mk hla
    clear hs hl hla
    go_enter Try.func39, Try.ntmps39
    go_wp2
    go_region
    go_wp2
    go_end0
    refine ⟨rfl, ?_, by repeat (first | exact Fr.refl _ _ | refine Fr.drew ?_ | refine Fr.alloc ?_ _ | refine Fr.setCell ?_ (.inl HF) _ | refine Fr.setCell ?_ (.inl HG) _)⟩
    have h1 := H.setField HS.out 2 (by omega) (.int .i64 (-1)) (fun t => { t with prev := none }) rfl
    obtain ⟨s2, hs2⟩ := SA.out (R.slots.modify k fun t => { t with prev := none }) (by simp) k hkn
    have := (((h1.setField hs2 3 (by omega) (.int .i64 (-1)) (fun t => { t with next := none }) rfl).setFirst (some k)).setLast (some k)).drew
    unfold Ring.lay layS layFirst
    rw [HE.out]
    rw [modify_modify] at this
    exact this
  · rw [hla] at h5
    simp only [lk] at h5
    obtain ⟨hpn, hpk⟩ := HL.out p hla
    have hpb : ((p : Int) == -1) = false := by simp
    obtain ⟨sp, hsp⟩ := SA.out R.slots rfl p hpn
    obtain ⟨e0, e1, e2, e3⟩ := H.slot hsp
    have HE := Asd.mk hla
    have HSP := Asd.mk hsp
    clear hs hl hla hsp
    go_enter Try.func39, Try.ntmps39
    go_wp2
    go_region
    go_wp2
    go_region
    go_wp2
    go_end0
    refine ⟨rfl, ?_, by repeat (first | exact Fr.refl _ _ | refine Fr.drew ?_ | refine Fr.alloc ?_ _ | refine Fr.setCell ?_ (.inl HF) _ | refine Fr.setCell ?_ (.inl HG) _)⟩
    have h1 := H.setField HS.out 2 (by omega) (.int .i64 (p : Int)) (fun t => { t with prev := some p }) rfl
    obtain ⟨s2, hs2⟩ := SA.out (R.slots.modify k fun t => { t with prev := some p }) (by simp) k hkn
    have h2 := h1.setField hs2 3 (by omega) (.int .i64 (-1)) (fun t => { t with next := none }) rfl
    obtain ⟨s3, hs3⟩ := SA.out ((R.slots.modify k fun t => { t with prev := some p }).modify k fun t => { t with next := none }) (by simp) p hpn
    have := ((h2.setField hs3 3 (by omega) (.int .i64 (k : Int)) (fun t => { t with next := some k }) rfl).setLast (some k)).drew.drew
    unfold Ring.lay layS layFirst
    rw [HE.out]
    rw [modify_modify] at this
    exact this

/-- The slots' row, where there is a slot, in its form. -/
theorem RingAt.form {w : World} {lo b : Nat} {R : Ring} {sv fv wv : Value} (H : RingAt w lo b R sv fv wv) (h : 0 < R.slots.length) : ∃ g c, sv = .slice (some ⟨g, 0, none⟩) R.slots.length c := by
  obtain ⟨g, c, h1, _⟩ := own_form H.s h
  exact ⟨g, c, h1⟩

theorem cut_calls (w : World) (lo b : Nat) (R : Ring) (sv fv wv : Value) (H : RingAt w lo b R sv fv wv) {o : List Nat} (L : Lnk R.slots R.first R.last o) (hn : R.slots.length ≤ 100000) (k : Nat) (hk : k ∈ o) :
  Calls Try.prog 40 #[.pointer (some ⟨b, 0, none⟩), .int .i64 (k : Int)] w fun e w' => e = .returned (.tuple #[]) ∧ RingAt w' lo b (R.cut k) sv fv wv ∧ Fr (Foot b sv fv wv) w w' := by
  have hkl := L.lt k hk
  obtain ⟨g, c, rfl⟩ := H.form (by omega)
  obtain ⟨l1, l2, _, ho, _⟩ := List.exists_erase_eq hk
  have hs : R.slots[k]? = some R.slots[k] := List.getElem?_eq_getElem hkl
  obtain ⟨h1, h2⟩ := L.at_ l1 k l2 _ ho hs
  refine cut_calls0 w lo b R g _ c fv wv H k _ hs hn hkl (fun p hp => ?_) (fun q hq => ?_)
  · rw [h1] at hp
    exact L.lt p (by rw [ho]; exact List.mem_append_left _ (getLast?_mem hp))
  · rw [h2] at hq
    exact L.lt q (by rw [ho]; exact List.mem_append_right _ (List.mem_cons_of_mem _ (head?_mem hq)))
theorem lay_calls (w : World) (lo b : Nat) (R : Ring) (sv fv wv : Value) (H : RingAt w lo b R sv fv wv) {o : List Nat} (L : Lnk R.slots R.first R.last o) (hn : R.slots.length ≤ 100000) (k : Nat) (hkl : k < R.slots.length) (hk : k ∉ o) :
  Calls Try.prog 39 #[.pointer (some ⟨b, 0, none⟩), .int .i64 (k : Int)] w fun e w' => e = .returned (.tuple #[]) ∧ RingAt w' lo b (R.lay k) sv fv wv ∧ Fr (Foot b sv fv wv) w w' := by
  obtain ⟨g, c, rfl⟩ := H.form (by omega)
  have hs : R.slots[k]? = some R.slots[k] := List.getElem?_eq_getElem hkl
  refine lay_calls0 w lo b R g _ c fv wv H k _ hs hn hkl (fun p hp => ?_)
  rw [L.lst] at hp
  have := getLast?_mem hp
  exact ⟨L.lt p this, fun e => hk (e ▸ this)⟩

theorem touch_calls (w : World) (lo b : Nat) (R : Ring) (sv fv wv : Value) (H : RingAt w lo b R sv fv wv) {o : List Nat} (P : Rep R o) (k : Nat) (hk : k ∈ o) :
  Calls Try.prog 32 #[.pointer (some ⟨b, 0, none⟩), .int .i64 (k : Int)] w fun e w' => e = .returned (.tuple #[]) ∧ RingAt w' lo b ((R.cut k).lay k) sv fv wv ∧ Fr (Foot b sv fv wv) w w' := by
  have hn : R.slots.length ≤ 100000 := by have := P.cap; have := P.room; omega
  have hkl := P.lnk.lt k hk
  have hs : R.slots[k]? = some R.slots[k] := List.getElem?_eq_getElem hkl
  obtain ⟨l1, l2, hnot, ho, _⟩ := List.exists_erase_eq hk
  have L0 := P.lnk
  rw [ho] at L0
  have L1 := L0.cut hs
  have hkn : k ∉ l1 ++ l2 := by
    have := L0.nd
    rw [List.nodup_append] at this
    obtain ⟨_, h2, h3⟩ := this
    rw [List.nodup_cons] at h2
    simp only [List.mem_append, not_or]
    exact ⟨hnot, h2.1⟩
  have L2 : Asd (Lnk (R.cut k).slots (R.cut k).first (R.cut k).last (l1 ++ l2)) := ⟨by rw [Ring.cut_some hs]; exact L1⟩
  have hcl : Asd ((R.cut k).slots.length = R.slots.length) := ⟨by rw [Ring.cut_some hs]; exact cutS_length _ _⟩
  have HL0 := Asd.mk P.lnk
  clear hs ho L0 L1
  go_enter Try.func32, Try.ntmps32
  go_wp2_with fail
  refine (cut_calls w lo b R sv fv wv H HL0.out hn k hk).mono ?_
  rintro e w1 ⟨rfl, H1, F1⟩
  go_wp2_with fail
  refine (lay_calls w1 lo b (R.cut k) sv fv wv H1 L2.out (by rw [hcl.out]; exact hn) k (by rw [hcl.out]; exact hkl) hkn).mono ?_
  rintro e w2 ⟨rfl, H2, F2⟩
  go_wp2_with fail
  go_end0
  exact ⟨rfl, H2, F1.trans F2 (fun i hi => .inl hi)⟩

theorem count_calls (w : World) (lo b : Nat) (R : Ring) (sv fv wv : Value) (H : RingAt w lo b R sv fv wv) (hn : R.slots.length ≤ 100000) (hf : R.free.length ≤ 100000) :
  Calls Try.prog 33 #[.pointer (some ⟨b, 0, none⟩)] w fun e w' => e = .returned (.int .i64 ((R.slots.length : Int) - (R.free.length : Int))) ∧ ∃ m, w' = w.drewN m := by
  obtain ⟨A, c, hs⟩ : ∃ A c, sv = .slice A R.slots.length c := by
    rcases H.s.2 with ⟨h, h0⟩ | ⟨g, cap, cur, h, _⟩
    · rw [h0]; exact ⟨_, _, h⟩
    · exact ⟨_, _, h⟩
  obtain ⟨A2, c2, hv⟩ : ∃ A c, fv = .slice A R.free.length c := by
    rcases H.f.2 with ⟨h, h0⟩ | ⟨g, cap, cur, h, _⟩
    · rw [h0]; exact ⟨_, _, h⟩
    · exact ⟨_, _, h⟩
  have h1 : w.cell? ⟨b, 1, none⟩ = some (.slice A R.slots.length c) := by rw [← hs]; exact H.cell 1
  have h2 : w.cell? ⟨b, 2, none⟩ = some (.slice A2 R.free.length c2) := by rw [← hv]; exact H.cell 2
  clear hs hv H
  go_enter Try.func33, Try.ntmps33
  go_wp2
  go_quiet (fail)
  go_wp2
  go_ret
  exact ⟨rfl, _, rfl⟩
end Go.Proofs.Ytapclgjelekijaa
