import Derived.Test.YtbpkmgkdbgdmeaaL9
/-! HashKeys: the walk. -/
namespace Go.Proofs.Ytbpkmgkdbgdmeaa
open Go.RowKit
set_option linter.unusedSimpArgs false
set_option linter.unusedVariables false

theorem longL_le (l : List ByteArray) (n : Nat) (h : ∀ d ∈ l, d.size ≤ n) : longL l ≤ l.length * (n + 1) := by
  induction l with
  | nil => simp [longL]
  | cons d l ih =>
    have h1 := h d (by simp)
    have h2 := ih fun x hx => h x (by simp [hx])
    unfold longL at h2 ⊢
    simp only [List.map_cons, List.sum_cons, List.length_cons]
    rw [Nat.add_mul]
    omega
theorem longL_far (l : List ByteArray) (h : ∀ d ∈ l, d.size ≤ 1048576) (hl : l.length ≤ 1048576) : longL l ≤ 4611686018427387904 := by
  have h1 := longL_le l 1048576 h
  have h2 : l.length * (1048576 + 1) ≤ 1048576 * (1048576 + 1) := Nat.mul_le_mul_right _ hl
  omega
/-- Below, from the law's own first world. -/
theorem bel_next {w w1 w2 : World} (h : Below w.heap.size w w1) (h2 : Below w1.heap.size w1 w2) : Below w.heap.size w w2 := h.trans (h2.mono h.size)
theorem bel_drew {w w1 : World} (h : Below w.heap.size w w1) (n : Nat) : Below w.heap.size w (w1.drewN n) := h.trans ⟨rfl, rfl, rfl, Nat.le_refl _, fun _ _ => rfl⟩
theorem StrAt.heap {w w' : World} {v : Value} {l : List ByteArray} (h : StrAt w v l) (hh : w'.heap = w.heap) : StrAt w' v l := by
  obtain ⟨A, c, h1, h2, h3⟩ := h
  refine ⟨A, c, h1, h2, fun hl => ?_⟩
  obtain ⟨g, off, h4, h5, h6⟩ := h3 hl
  refine ⟨g, off, h4, by rw [hh]; exact h5, fun j s hj => ?_⟩
  have := h6 j s hj
  unfold World.cell? at this ⊢
  rw [hh]
  exact this

set_option maxRecDepth 20000 in
set_option maxHeartbeats 4000000 in
theorem keys_law (w : World) (v : Value) (l : List ByteArray) (H : StrAt w v l) (hs : ∀ d ∈ l, d.size ≤ 1048576) (hl : l.length ≤ 1048576) (s : ByteArray) (hss : s.size ≤ 1048576) :
    Calls Try.prog 6 #[v, .string s] w fun e w' => e = .returned (.bool true) ∧ Below w.heap.size w w' := by
  have HL := Asd.mk (long_calls w v l H (longL_far l hs hl))
  have HK := Asd.mk (known_calls w)
  have hfar := longL_far l hs hl
  have HS := Asd.mk hs
  have HH := Asd.mk H
  clear hs H
  by_cases h500 : 500 < longL l
  · have hb1 : decide ((500 : Int) < (longL l : Int)) = true := decide_eq_true (by omega)
    generalize longL l = n at *
    go_enter Try.func6, Try.ntmps6
    go_wp2_with fail
    refine HL.out.mono ?_
    rintro e w' ⟨rfl, rfl⟩
    go_wp2_with fail
    refine HK.out.mono ?_
    rintro e w' ⟨rfl, hb⟩
    have HB := Asd.mk hb
    clear hb
    go_wp2_with fail
    go_ret
    exact ⟨rfl, HB.out⟩
  · have hb1 : decide ((500 : Int) < (longL l : Int)) = false := decide_eq_false (by omega)
    by_cases h300 : 300 < s.size
    · have hb2 : decide ((300 : Int) < (s.size : Int)) = true := decide_eq_true (by omega)
      generalize longL l = n at *
      go_enter Try.func6, Try.ntmps6
      go_wp2_with fail
      refine HL.out.mono ?_
      rintro e w' ⟨rfl, rfl⟩
      go_wp2_with fail
      refine HK.out.mono ?_
      rintro e w' ⟨rfl, hb⟩
      have HB := Asd.mk hb
      clear hb
      go_wp2_with fail
      go_ret
      exact ⟨rfl, HB.out⟩
    · have hb2 : decide ((300 : Int) < (s.size : Int)) = false := decide_eq_false (by omega)
      have HSM : Asd (∀ d ∈ l, d.size ≤ 2000) := ⟨fun d hd => by have := longL_mem hd; omega⟩
      have HLM : Asd (l.length ≤ 2000) := ⟨by have := longL_len l; omega⟩
      have HP := Asd.mk (fun w1 => parts_calls w1 s (by omega))
      have HQ := Asd.mk (fun w1 => rparts_calls w1 s (by omega))
      unfold PartsPost at HP HQ
      have HKY := Asd.mk (fun w1 hst => key_calls w1 v l hst HSM.out HLM.out)
      have HRK := Asd.mk (fun w1 hst => rkey_calls w1 v l hst HSM.out HLM.out)
      generalize ((parP s.data.toList [] []).getD []).map bstr = L1 at *
      generalize (parP s.data.toList [] []).isSome = ok at *
      generalize (⟨(keyL l).toArray⟩ : ByteArray) = KS at *
      have HKN := Asd.mk known_calls
      have heq : (KS.toList == KS.toList) = true := by simp
      have hokb : (ok == ok) = true := by simp
      generalize longL l = n at *
      go_enter Try.func6, Try.ntmps6
      go_wp2_with fail
      refine HL.out.mono ?_
      rintro e w' ⟨rfl, rfl⟩
      go_wp2_with fail
      refine (HP.out _).mono ?_
      rintro e w1 ⟨v1, rfl, hs1, hb⟩
      have HS1 := Asd.mk hs1
      have HB1 := Asd.mk hb
      clear hs1 hb
      go_wp2_with fail
      refine (HQ.out _).mono ?_
      rintro e w2 ⟨v2, rfl, hs2, hb⟩
      have HS2 := Asd.mk hs2
      have HS12 := Asd.mk (HS1.out.below hb (Nat.le_refl _))
      have HB2 := Asd.mk (bel_next HB1.out hb)
      clear hs2 hb HS1
      go_wp2_with fail
      refine (HKY.out _ (HH.out.below HB2.out (Nat.le_refl _))).mono ?_
      rintro e w3 ⟨rfl, hb⟩
      have HS23 := Asd.mk (HS2.out.below hb (Nat.le_refl _))
      have HS13 := Asd.mk (HS12.out.below hb (Nat.le_refl _))
      have HB3 := Asd.mk (bel_next HB2.out hb)
      clear hb HS2 HS12
      go_wp2_with fail
      refine (HRK.out _ (HH.out.below HB3.out (Nat.le_refl _))).mono ?_
      rintro e w4 ⟨rfl, hb⟩
      have HS24 := Asd.mk (HS23.out.below hb (Nat.le_refl _))
      have HS14 := Asd.mk (HS13.out.below hb (Nat.le_refl _))
      have HB4 := Asd.mk (bel_next HB3.out hb)
      clear hb HS23 HS13
      have HSM4 := Asd.mk (same_calls w4 v1 v2 L1 L1 HS14.out HS24.out)
      rw [decide_eq_true (rfl : L1 = L1)] at HSM4
      go_wp2_with fail
      refine HSM4.out.mono ?_
      rintro e w5 ⟨rfl, m, rfl⟩
      have HB5 := Asd.mk (bel_drew HB4.out m)
      go_wp2_with fail
      refine (HKN.out _).mono ?_
      rintro e w6 ⟨rfl, hb⟩
      have HB6 := Asd.mk (bel_next HB5.out hb)
      clear hb
      go_wp2_with fail
      go_ret
      exact ⟨rfl, HB6.out⟩
end Go.Proofs.Ytbpkmgkdbgdmeaa
