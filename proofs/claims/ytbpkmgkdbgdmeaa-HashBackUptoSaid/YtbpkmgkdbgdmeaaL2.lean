import Derived.Test.YtbpkmgkdbgdmeaaL1
/-! HashSums, HashOne: the walks. -/
namespace Go.Proofs.Ytbpkmgkdbgdmeaa
open Go.RowKit
set_option linter.unusedSimpArgs false
set_option linter.unusedVariables false

set_option maxHeartbeats 2000000 in
theorem sums_law (w : World) (s : ByteArray) (hs : s.size ≤ 140737488351232) (n : Int) : Calls Try.prog 4 #[.string s, .int .i64 n] w fun e w' => e = .returned (.bool true) ∧ Below w.heap.size w w' := by
  have HK := Asd.mk (known_calls w)
  by_cases hb : 1000 < s.size
  · have hb1 : decide ((1000 : Int) < (s.size : Int)) = true := decide_eq_true (by omega)
    go_enter Try.func4, Try.ntmps4
    go_wp2_with fail
    refine HK.out.mono ?_
    rintro e w' ⟨rfl, hb⟩
    have HB := Asd.mk hb
    clear hb
    go_wp2_with fail
    go_ret
    exact ⟨rfl, HB.out⟩
  · have hb1 : decide ((1000 : Int) < (s.size : Int)) = false := decide_eq_false (by omega)
    have HA := Asd.mk (sum_calls s w (by omega))
    have HB := Asd.mk (rsum_calls s w (by omega))
    have HC := Asd.mk (shard_calls s n w (by omega))
    have HD := Asd.mk (rshard_calls s n w (by omega))
    generalize hsum s = h at *
    generalize shardN s n = r at *
    go_enter Try.func4, Try.ntmps4
    go_wp2_with fail
    refine HA.out.mono ?_
    rintro e w' ⟨rfl, rfl⟩
    go_wp2_with fail
    refine HB.out.mono ?_
    rintro e w' ⟨rfl, rfl⟩
    go_wp2_with fail
    refine HC.out.mono ?_
    rintro e w' ⟨rfl, rfl⟩
    go_wp2_with fail
    refine HD.out.mono ?_
    rintro e w' ⟨rfl, rfl⟩
    go_wp2_with fail
    refine HK.out.mono ?_
    rintro e w' ⟨rfl, hb⟩
    have HB := Asd.mk hb
    clear hb
    go_wp2_with fail
    go_ret
    exact ⟨rfl, HB.out⟩
theorem shard_one (s : ByteArray) : shardN s 1 = 0 := by
  have := shardN_lt s 1
  have h : clipI 1 = 1 := by decide
  omega
theorem shard_neg (s : ByteArray) : shardN s (-5) = 0 := by
  have := shardN_lt s (-5)
  have h : clipI (-5) = 1 := by decide
  omega
theorem shard_over (s : ByteArray) : shardN s 1000 = shardN s 64 := by
  unfold shardN
  rw [show clipI 1000 = clipI 64 by decide]
set_option maxHeartbeats 2000000 in
theorem one_law (w : World) (s : ByteArray) (hs : s.size ≤ 140737488351232) (n : Int) : Calls Try.prog 5 #[.string s, .int .i64 n] w fun e w' => e = .returned (.bool true) ∧ Below w.heap.size w w' := by
  have HK := Asd.mk (known_calls w)
  by_cases hb : 300 < s.size
  · have hb1 : decide ((300 : Int) < (s.size : Int)) = true := decide_eq_true (by omega)
    go_enter Try.func5, Try.ntmps5
    go_wp2_with fail
    refine HK.out.mono ?_
    rintro e w' ⟨rfl, hb⟩
    have HB := Asd.mk hb
    clear hb
    go_wp2_with fail
    go_ret
    exact ⟨rfl, HB.out⟩
  · have hb1 : decide ((300 : Int) < (s.size : Int)) = false := decide_eq_false (by omega)
    have HA := Asd.mk (sum_calls s w (by omega))
    have HC := Asd.mk (fun n => shard_calls s n w (by omega))
    have H1 := Asd.mk (HC.out 1)
    have H2 := Asd.mk (HC.out (-5))
    have H3 := Asd.mk (HC.out 64)
    have H4 := Asd.mk (HC.out 1000)
    have H0 := Asd.mk (HC.out n)
    rw [shard_one] at H1
    rw [shard_neg] at H2
    rw [shard_over] at H4
    clear HC
    have hlt := shardN_lt s n
    have hcc := clipI_cast n
    have hpos : ¬ ((shardN s n : Int) < 0) := by omega
    have hge : ¬ (max 1 (min n 64) ≤ (shardN s n : Int)) := by omega
    have hh : hsum s < 18446744073709551616 := hsumL_lt _
    have HS : Asd (((shardN s n : Nat) : Int) = ((hsum s : Nat) : Int) % ((clipI n : Nat) : Int)) := ⟨by unfold shardN; simp⟩
    rw [hcc] at HS
    by_cases hn : n < 1
    · have hr : shardN s n = 0 := by omega
      rw [hr] at H0 hpos hge
      clear hlt hcc hr HS
      generalize shardN s 64 = r64 at *
      go_enter Try.func5, Try.ntmps5
      go_wp2_with fail
      refine H0.out.mono ?_
      rintro e w' ⟨rfl, rfl⟩
      go_wp2_with fail
      refine H1.out.mono ?_
      rintro e w' ⟨rfl, rfl⟩
      go_wp2_with fail
      refine H2.out.mono ?_
      rintro e w' ⟨rfl, rfl⟩
      go_wp2_with fail
      refine H3.out.mono ?_
      rintro e w' ⟨rfl, rfl⟩
      go_wp2_with fail
      refine H4.out.mono ?_
      rintro e w' ⟨rfl, rfl⟩
      go_wp2_with fail
      refine HK.out.mono ?_
      rintro e w' ⟨rfl, hb⟩
      have HB := Asd.mk hb
      clear hb
      go_wp2_with fail
      go_ret
      exact ⟨rfl, HB.out⟩
    · have hmn : (min n 64).toNat = clipI n := by unfold clipI; omega
      have hmm : min n 64 = ((clipI n : Nat) : Int) := by omega
      have hw1 : IntKind.u64.wrap ((clipI n : Nat) : Int) = ((clipI n : Nat) : Int) := by rw [IntKind.wrap_u64]; have := clipI_bounds n; omega
      have hbd := clipI_bounds n
      have hc0 : (((clipI n : Nat) : Int) == 0) = false := beq_eq_false_iff_ne.2 (by omega)
      have hc1 : ¬ (((clipI n : Nat) : Int) = 0) := by omega
      have HS2 : Asd (((hsum s : Nat) : Int) % ((clipI n : Nat) : Int) = ((shardN s n : Nat) : Int)) := ⟨by rw [HS.out, hcc]⟩
      have hw2 : IntKind.i64.wrap (((hsum s : Nat) : Int) % ((clipI n : Nat) : Int)) = ((shardN s n : Nat) : Int) := by rw [HS2.out]; exact IntWalk.i64_in _ (by omega)
      have hge2 : ¬ (max 1 ((clipI n : Nat) : Int) ≤ (shardN s n : Int)) := by omega
      have hmx : max 1 ((clipI n : Nat) : Int) = ((clipI n : Nat) : Int) := by omega
      clear hcc HS HS2 hge hmn hge2
      generalize shardN s 64 = r64 at *
      generalize shardN s n = r at *
      generalize hsum s = h at *
      generalize clipI n = c at *
      go_enter Try.func5, Try.ntmps5
      go_wp2_with fail
      refine H0.out.mono ?_
      rintro e w' ⟨rfl, rfl⟩
      go_wp2_with fail
      refine H1.out.mono ?_
      rintro e w' ⟨rfl, rfl⟩
      go_wp2_with fail
      refine H2.out.mono ?_
      rintro e w' ⟨rfl, rfl⟩
      go_wp2_with fail
      refine H3.out.mono ?_
      rintro e w' ⟨rfl, rfl⟩
      go_wp2_with fail
      refine H4.out.mono ?_
      rintro e w' ⟨rfl, rfl⟩
      go_wp2_with fail
      refine HA.out.mono ?_
      rintro e w' ⟨rfl, rfl⟩
      go_wp2_with fail
      refine HK.out.mono ?_
      rintro e w' ⟨rfl, hb⟩
      have HB := Asd.mk hb
      clear hb
      go_wp2_with fail
      go_ret
      exact ⟨rfl, HB.out⟩
end Go.Proofs.Ytbpkmgkdbgdmeaa
