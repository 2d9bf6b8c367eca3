import Derived.Test.YtbpkmgkdbgdmeaaN1
/-! HashBack: the walk. -/
namespace Go.Proofs.Ytbpkmgkdbgdmeaa
open Go.RowKit
set_option linter.unusedSimpArgs false
set_option linter.unusedVariables false

set_option maxRecDepth 20000 in
set_option maxHeartbeats 4000000 in
theorem back_law (w : World) (va : Value) (a : List ByteArray) (HA : StrAt w va a) (hsa : ∀ d ∈ a, d.size ≤ 1048576) (hla : a.length ≤ 1048576) (vb : Value) (b : List ByteArray) (HB : StrAt w vb b) (hsb : ∀ d ∈ b, d.size ≤ 1048576) (hlb : b.length ≤ 1048576) :
    Calls Try.prog 7 #[va, vb] w fun e w' => e = .returned (.bool true) ∧ Below w.heap.size w w' := by
  have hLA := long_calls w va a HA (longL_far a hsa hla)
  have hLB := long_calls w vb b HB (longL_far b hsb hlb)
  have HLA := Asd.mk hLA
  have HLB := Asd.mk hLB
  have HK := Asd.mk known_calls
  have hfa : longL a ≤ 2000000000000 := by
    have h1 := longL_le a 1048576 hsa
    have h2 : a.length * (1048576 + 1) ≤ 1048576 * (1048576 + 1) := Nat.mul_le_mul_right _ hla
    omega
  have hfb : longL b ≤ 2000000000000 := by
    have h1 := longL_le b 1048576 hsb
    have h2 : b.length * (1048576 + 1) ≤ 1048576 * (1048576 + 1) := Nat.mul_le_mul_right _ hlb
    omega
  have HHA := Asd.mk HA
  have HHB := Asd.mk HB
  clear hLA hLB hsa hsb HA HB
  by_cases h500 : 500 < longL a + longL b
  · have hb1 : decide ((500 : Int) < (longL a : Int) + (longL b : Int)) = true := decide_eq_true (by omega)
    generalize longL a = n at *
    generalize longL b = m at *
    go_enter Try.func7, Try.ntmps7
    go_wp2_with fail
    refine HLA.out.mono ?_
    rintro e w' ⟨rfl, rfl⟩
    go_wp2_with fail
    refine HLB.out.mono ?_
    rintro e w' ⟨rfl, rfl⟩
    go_wp2_with fail
    refine (HK.out _).mono ?_
    rintro e w' ⟨rfl, hb⟩
    have HB := Asd.mk hb
    clear hb
    go_wp2_with fail
    go_ret
    exact ⟨rfl, HB.out⟩
  · have hb1 : decide ((500 : Int) < (longL a : Int) + (longL b : Int)) = false := decide_eq_false (by omega)
    have HSA : Asd (∀ d ∈ a, d.size ≤ 2000) := ⟨fun d hd => by have := longL_mem hd; omega⟩
    have HSB : Asd (∀ d ∈ b, d.size ≤ 2000) := ⟨fun d hd => by have := longL_mem hd; omega⟩
    have hca := longL_len a
    have hcb := longL_len b
    have hka := keyL_long a
    have hkb := keyL_long b
    have HSAB : Asd (∀ d ∈ a ++ b, d.size ≤ 2000) := ⟨fun d hd => by
      rcases List.mem_append.1 hd with h | h
      · exact HSA.out d h
      · exact HSB.out d h⟩
    have HKA := Asd.mk (fun w1 hst => key_calls w1 va a hst HSA.out (by omega))
    have HKB := Asd.mk (fun w1 hst => key_calls w1 vb b hst HSB.out (by omega))
    have HKAB := Asd.mk (fun w1 v hst => key_calls w1 v (a ++ b) hst HSAB.out (by rw [List.length_append]; omega))
    have HP := Asd.mk (fun w1 => parts_calls w1 ⟨(keyL a).toArray⟩ (by show (keyL a).toArray.size ≤ _; rw [List.size_toArray]; omega))
    unfold PartsPost at HP
    rw [parts_back] at HP
    simp only [Option.getD_some, Option.isSome_some] at HP
    rw [lists_bstr] at HP
    have HINJ : Asd ((bstr (keyL a) = bstr (keyL b)) ↔ a = b) := ⟨⟨fun h => keyL_inj (bstr_inj h), fun h => by rw [h]⟩⟩
    have HADD : Asd (bstr (keyL a) ++ bstr (keyL b) = bstr (keyL (a ++ b))) := ⟨by rw [bstr_append, keyL_append]⟩
    have hza : (bstr (keyL a)).size ≤ 1000 := by rw [bstr_size]; omega
    have hzb : (bstr (keyL b)).size ≤ 1000 := by rw [bstr_size]; omega
    have hlaa : a.length ≤ 500 := by omega
    have hlbb : b.length ≤ 500 := by omega
    rw [show (⟨(keyL a).toArray⟩ : ByteArray) = bstr (keyL a) from rfl] at HKA HP
    rw [show (⟨(keyL b).toArray⟩ : ByteArray) = bstr (keyL b) from rfl] at HKB
    rw [show (⟨(keyL (a ++ b)).toArray⟩ : ByteArray) = bstr (keyL (a ++ b)) from rfl] at HKAB
    clear hka hkb
    generalize bstr (keyL (a ++ b)) = KAB at *
    generalize bstr (keyL a) = KA at *
    generalize bstr (keyL b) = KB at *
    generalize longL a = n at *
    generalize longL b = m at *
    have hadd := HADD.out
    have heqab : (KAB.toList == KAB.toList) = true := by simp
    obtain ⟨q, hq⟩ : ∃ q : Bool, q = decide (a = b) := ⟨_, rfl⟩
    have hkeq : (KA.toList == KB.toList) = q := by
      rw [hq]
      by_cases h : a = b
      · rw [decide_eq_true h, HINJ.out.2 h]; simp
      · rw [decide_eq_false h, beq_eq_false_iff_ne]
        exact toList_ne fun e => h (HINJ.out.1 e)
    have HQ := Asd.mk hq
    have hqq : (q == q) = true := by simp
    clear hq
    have hform : ∃ A c, va = .slice A a.length c := by obtain ⟨A, c, h, _⟩ := HHA.out; exact ⟨A, c, h⟩
    have hformb : ∃ A c, vb = .slice A b.length c := by obtain ⟨A, c, h, _⟩ := HHB.out; exact ⟨A, c, h⟩
    obtain ⟨Aa, ca, rfl⟩ := hform
    obtain ⟨Ab, cb, rfl⟩ := hformb
    go_enter Try.func7, Try.ntmps7
    go_wp2_with fail
    refine HLA.out.mono ?_
    rintro e w' ⟨rfl, rfl⟩
    go_wp2_with fail
    refine HLB.out.mono ?_
    rintro e w' ⟨rfl, rfl⟩
    go_wp2_with fail
    refine (HKA.out _ HHA.out).mono ?_
    rintro e w1 ⟨rfl, hb⟩
    have HB1 := Asd.mk hb
    clear hb
    go_wp2_with fail
    refine (HKB.out _ (HHB.out.below HB1.out (Nat.le_refl _))).mono ?_
    rintro e w2 ⟨rfl, hb⟩
    have HB2 := Asd.mk (bel_next HB1.out hb)
    clear hb
    go_wp2_with fail
    refine (HP.out _).mono ?_
    rintro e w3 ⟨v3, rfl, hs3, hb⟩
    have HB3 := Asd.mk (bel_next HB2.out hb)
    have HS3 := Asd.mk hs3
    clear hb hs3
    obtain ⟨v4, w4, hr4, ho4, hg4⟩ := run_app w3 w3.heap.size (.slice none 0 0) 0 [] (World.ownsRow_nil _ _ _ _) Aa ca a (HHA.out.below HB3.out (Nat.le_refl _)) (by omega) (by omega) (Nat.le_refl _)
    have HB34 : Asd (Below w3.heap.size w3 w4) := ⟨(Below.refl _ w3).grown hg4 (Nat.le_refl _) (fun k hk => by simp [Value.ownBlock] at hk)⟩
    have HB4 := Asd.mk (bel_next HB3.out HB34.out)
    have HO4 := Asd.mk ho4
    obtain ⟨v5, w5, hr5, ho5, hg5⟩ := run_app w4 w3.heap.size v4 _ _ ho4 Ab cb b (HHB.out.below HB4.out (Nat.le_refl _)) (by omega) (by omega) HB34.out.size
    have HB35 : Asd (Below w3.heap.size w3 w5) := ⟨HB34.out.grown hg5 HB34.out.size (fun k hk => (HO4.out.lt k hk).1)⟩
    have HB5 := Asd.mk (bel_next HB3.out HB35.out)
    have HS5 : Asd (StrAt w5 v5 (a ++ b)) := ⟨StrAt.own (base := w3.heap.size) (n := 0 + a.length + b.length) (by rw [List.map_append]; simpa using ho5)⟩
    have HR4 := Asd.mk hr4
    have HR5 := Asd.mk hr5
    clear ho4 hg4 ho5 hg5 hr4 hr5
    have HSM := Asd.mk (same_calls w5 v3 (.slice Aa a.length ca) a a (HS3.out.below HB35.out (Nat.le_refl _)) (HHA.out.below HB5.out (Nat.le_refl _)))
    rw [decide_eq_true (rfl : a = a)] at HSM
    have HSN := Asd.mk (fun w' hh => same_calls w' (.slice Aa a.length ca) (.slice Ab b.length cb) a b ((HHA.out.below HB5.out (Nat.le_refl _)).heap hh) ((HHB.out.below HB5.out (Nat.le_refl _)).heap hh))
    rw [← HQ.out] at HSN
    go_wp2_with (at_builtin; first | (refine wpList_run_append rfl _ _ rfl _ _ _ _ (by rfl) (by rfl) HR4.out ?_) | (refine wpList_run_append rfl _ _ rfl _ _ _ _ (by rfl) (by rfl) HR5.out ?_))
    refine HSM.out.mono ?_
    rintro e w6 ⟨rfl, m6, rfl⟩
    go_wp2_with fail
    refine (HSN.out (w5.drewN m6) rfl).mono ?_
    rintro e w7 ⟨rfl, m7, rfl⟩
    have HB7 := Asd.mk (bel_drew HB5.out (m6 + m7))
    have HS7 : Asd (StrAt (w5.drewN (m6 + m7)) v5 (a ++ b)) := ⟨HS5.out.heap rfl⟩
    go_wp2_with fail
    refine (HKAB.out _ _ HS7.out).mono ?_
    rintro e w8 ⟨rfl, hb⟩
    have HB8 := Asd.mk (bel_next HB7.out hb)
    clear hb
    go_wp2_with fail
    refine (HK.out _).mono ?_
    rintro e w9 ⟨rfl, hb⟩
    have HB9 := Asd.mk (bel_next HB8.out hb)
    clear hb
    go_wp2_with fail
    go_ret
    exact ⟨rfl, HB9.out⟩
end Go.Proofs.Ytbpkmgkdbgdmeaa
