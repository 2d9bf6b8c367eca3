import Derived.Test.YtbpkmgkdbgdmeaaK3
import Derived.Test.YtbpkmgkdbgdmeaaL0
import Derived.Laws.Bits64
/-! The sums and the shards: the walks. -/
namespace Go.Proofs.Ytbpkmgkdbgdmeaa
open Go.RowKit
set_option linter.unusedSimpArgs false
set_option linter.unusedVariables false

theorem take_snoc (s : ByteArray) (k : Nat) (h : k < s.size) : s.data.toList.take (k + 1) = s.data.toList.take k ++ [s[k]] := by
  rw [List.take_succ_eq_append_getElem (by simpa using h)]; rfl
theorem fnv_step (h c : Nat) (hh : h < 18446744073709551616) (hc : c < 256) :
    IntKind.u64.wrap (bits .xor .u64 (h : Int) (IntKind.u64.wrap (c : Int)) * 1099511628211) = ((fnv h c : Nat) : Int) := by
  have h1 : IntKind.u64.wrap (c : Int) = (c : Int) := by rw [IntKind.wrap_u64]; omega
  rw [h1, bits_xor_u64_nat h c hh (by omega), IntKind.wrap_u64]
  unfold fnv
  omega
theorem ret_u64 {a b : Int} (h : a = b) : Ending.returned (.int .u64 a) = .returned (.int .u64 b) := by rw [h]
theorem ret_i64 {a b : Int} (h : a = b) : Ending.returned (.int .i64 a) = .returned (.int .i64 b) := by rw [h]
theorem hsumL_all (s : ByteArray) : hsumL (s.data.toList.take s.size) = hsum s := by
  rw [List.take_of_length_le (by rw [Array.length_toList]; exact Nat.le_refl _)]
  rfl

set_option maxHeartbeats 2000000 in
theorem sum_calls (s : ByteArray) (w : World) (hs : s.size ≤ 140737488355328) : Calls Try.prog 9 #[.string s] w fun e w' => e = .returned (.int .u64 (hsum s : Nat)) ∧ w = w' := by
  go_enter Try.func9, Try.ntmps9
  go_wp2
  go_loop [3, 4, 7] (fun h _ i => ∃ k : Nat, k ≤ s.size ∧ i = .int .i64 (k : Int) ∧ h = .int .u64 ((hsumL (s.data.toList.take k) : Nat) : Int)) (fun _ _ i => s.size - (intOf i).toNat)
  case atStart => exact ⟨0, Nat.zero_le _, rfl, rfl⟩
  case round =>
    obtain ⟨k, hk, rfl, rfl⟩ := hrel
    by_cases hlt : k < s.size
    · have HS := Asd.mk (fnv_step (hsumL (s.data.toList.take k)) s[k].toNat (hsumL_lt _) (by have := s[k].toNat_lt; omega))
      have HT := Asd.mk (take_snoc s k hlt)
      go_wp2
      refine ⟨⟨k + 1, by omega, by go_num, ?_⟩, by simp [intOf]; omega⟩
      rw [HS.out, HT.out, hsumL_snoc]
    · go_wp2
      go_ret
      exact ⟨ret_u64 (by rw [List.take_of_length_le (by simp; omega)]; rfl), rfl⟩
set_option maxHeartbeats 2000000 in
theorem rsum_calls (s : ByteArray) (w : World) (hs : s.size ≤ 140737488355328) : Calls Try.prog 10 #[.string s] w fun e w' => e = .returned (.int .u64 (hsum s : Nat)) ∧ w = w' := by
  go_enter Try.func10, Try.ntmps10
  go_wp2
  go_loop [3, 4] (fun h i => ∃ k : Nat, k ≤ s.size ∧ i = .int .i64 (k : Int) ∧ h = .int .u64 ((hsumL (s.data.toList.take k) : Nat) : Int)) (fun _ i => s.size - (intOf i).toNat)
  case atStart => exact ⟨0, Nat.zero_le _, rfl, rfl⟩
  case round =>
    obtain ⟨k, hk, rfl, rfl⟩ := hrel
    by_cases hlt : k < s.size
    · have HS := Asd.mk (fnv_step (hsumL (s.data.toList.take k)) s[k].toNat (hsumL_lt _) (by have := s[k].toNat_lt; omega))
      have HT := Asd.mk (take_snoc s k hlt)
      go_wp2
      refine ⟨⟨k + 1, by omega, by go_num, ?_⟩, by simp [intOf]; omega⟩
      rw [HS.out, HT.out, hsumL_snoc]
    · go_wp2
      go_ret
      exact ⟨ret_u64 (by rw [List.take_of_length_le (by simp; omega)]; rfl), rfl⟩
/-- How many shards. -/
def clipI (n : Int) : Nat := (max 1 (min n 64)).toNat
theorem clipI_bounds (n : Int) : 1 ≤ clipI n ∧ clipI n ≤ 64 := by unfold clipI; omega
theorem clipI_cast (n : Int) : ((clipI n : Nat) : Int) = max 1 (min n 64) := by unfold clipI; omega
theorem clip_calls (n : Int) (w : World) : Calls Try.prog 19 #[.int .i64 n] w fun e w' => e = .returned (.int .i64 (clipI n : Nat)) ∧ w = w' := by
  have HC := Asd.mk (clipI_cast n)
  go_enter Try.func19, Try.ntmps19
  go_wp2
  go_ret
  exact ⟨ret_i64 HC.out.symm, rfl⟩
theorem rclip_calls (n : Int) (w : World) : Calls Try.prog 20 #[.int .i64 n] w fun e w' => e = .returned (.int .i64 (clipI n : Nat)) ∧ w = w' := by
  have HC := Asd.mk (clipI_cast n)
  go_enter Try.func20, Try.ntmps20
  go_wp2
  all_goals
    go_ret
    exact ⟨ret_i64 (by rw [HC.out]; omega), rfl⟩
def shardN (s : ByteArray) (n : Int) : Nat := hsum s % clipI n
theorem shardN_lt (s : ByteArray) (n : Int) : shardN s n < clipI n := Nat.mod_lt _ (by have := clipI_bounds n; omega)
theorem shard_calls (s : ByteArray) (n : Int) (w : World) (hs : s.size ≤ 140737488355328) : Calls Try.prog 11 #[.string s, .int .i64 n] w fun e w' => e = .returned (.int .i64 (shardN s n : Nat)) ∧ w = w' := by
  have hc := clipI_bounds n
  have hh : hsum s < 18446744073709551616 := hsumL_lt _
  have HS : Asd (((shardN s n : Nat) : Int) = ((hsum s : Nat) : Int) % ((clipI n : Nat) : Int)) := ⟨by unfold shardN; simp⟩
  have h1 := shardN_lt s n
  generalize shardN s n = r at *
  have HA := Asd.mk (sum_calls s w hs)
  have HB := Asd.mk (clip_calls n w)
  generalize hsum s = h at *
  generalize clipI n = c at *
  go_enter Try.func11, Try.ntmps11
  go_wp2_with fail
  refine HA.out.mono ?_
  rintro e w' ⟨rfl, rfl⟩
  go_wp2_with fail
  refine HB.out.mono ?_
  rintro e w' ⟨rfl, rfl⟩
  have hw1 : IntKind.u64.wrap (c : Int) = (c : Int) := by rw [IntKind.wrap_u64]; omega
  have hw2 : IntKind.i64.wrap ((h : Int) % (c : Int)) = ((h : Int) % (c : Int)) := IntWalk.i64_in _ (by have := HS.out; omega)
  have hc0 : ((c : Int) == 0) = false := beq_eq_false_iff_ne.2 (by omega)
  have hc1 : ¬ ((c : Int) = 0) := by omega
  go_wp2_with fail
  go_ret
  exact ⟨ret_i64 HS.out.symm, rfl⟩
theorem rshard_calls (s : ByteArray) (n : Int) (w : World) (hs : s.size ≤ 140737488355328) : Calls Try.prog 12 #[.string s, .int .i64 n] w fun e w' => e = .returned (.int .i64 (shardN s n : Nat)) ∧ w = w' := by
  have hc := clipI_bounds n
  have hh : hsum s < 18446744073709551616 := hsumL_lt _
  have HS : Asd (((shardN s n : Nat) : Int) = ((hsum s : Nat) : Int) % ((clipI n : Nat) : Int)) := ⟨by unfold shardN; simp⟩
  have h1 := shardN_lt s n
  generalize shardN s n = r at *
  have HA := Asd.mk (rsum_calls s w hs)
  have HB := Asd.mk (rclip_calls n w)
  generalize hsum s = h at *
  generalize clipI n = c at *
  go_enter Try.func12, Try.ntmps12
  go_wp2_with fail
  refine HA.out.mono ?_
  rintro e w' ⟨rfl, rfl⟩
  go_wp2_with fail
  refine HB.out.mono ?_
  rintro e w' ⟨rfl, rfl⟩
  have hw1 : IntKind.u64.wrap (c : Int) = (c : Int) := by rw [IntKind.wrap_u64]; omega
  have hw2 : IntKind.i64.wrap ((h : Int) % (c : Int)) = ((h : Int) % (c : Int)) := IntWalk.i64_in _ (by have := HS.out; omega)
  have hc0 : ((c : Int) == 0) = false := beq_eq_false_iff_ne.2 (by omega)
  have hc1 : ¬ ((c : Int) = 0) := by omega
  go_wp2_with fail
  go_ret
  exact ⟨ret_i64 HS.out.symm, rfl⟩
/-- The example that all laws ask. -/
theorem key_known : keyL [⟨#[97]⟩, ⟨#[98, 58, 99]⟩] = [97, 58, 98, 92, 58, 99, 58] := by decide
theorem sum_empty : hsum ⟨#[]⟩ = 14695981039346656037 := rfl
theorem sum_a : hsum ⟨#[97]⟩ = 12638187200555641996 := by
  unfold hsum hsumL
  simp [fnv]
theorem known_calls (w : World) : Calls Try.prog 8 #[] w fun e w' => e = .returned (.bool true) ∧ Below w.heap.size w w' := by
  have HA := Asd.mk (sum_calls ⟨#[]⟩ w (by decide))
  have HB := Asd.mk (sum_calls ⟨#[97]⟩ w (by decide))
  rw [sum_empty] at HA
  rw [sum_a] at HB
  have HR : Asd (StrAt (w.alloc (.cells #[.string ⟨#[97]⟩, .string ⟨#[98, 58, 99]⟩] 9)) (.slice (some ⟨w.heap.size, 0, none⟩) 2 2) [⟨#[97]⟩, ⟨#[98, 58, 99]⟩]) :=
    ⟨⟨_, 2, rfl, by decide, fun _ => ⟨w.heap.size, 0, rfl, by simp, fun j s hj => by
      rw [Nat.zero_add]
      match j, hj with
      | 0, hj => simp at hj; subst hj; exact cell_of_row _ _ 0 _ _ _ (heap_alloc_new _ _)
      | 1, hj => simp at hj; subst hj; exact cell_of_row _ _ 1 _ _ _ (heap_alloc_new _ _)⟩⟩⟩
  have HK := Asd.mk (key_calls _ _ _ HR.out (by intro s hs; simp at hs; rcases hs with rfl | rfl <;> decide) (by decide))
  rw [key_known] at HK
  have HW := Asd.mk ((Below.refl _ w).alloc (Nat.le_refl _) (.cells #[.string ⟨#[97]⟩, .string ⟨#[98, 58, 99]⟩] 9))
  go_enter Try.func8, Try.ntmps8
  go_wp2_with fail
  refine HA.out.mono ?_
  rintro e w' ⟨rfl, rfl⟩
  go_wp2_with fail
  refine HB.out.mono ?_
  rintro e w' ⟨rfl, rfl⟩
  go_wp2_with fail
  refine HK.out.mono ?_
  rintro e w' ⟨rfl, hb⟩
  have HB2 := Asd.mk (HW.out.trans (hb.mono HW.out.size))
  clear hb
  go_wp2_with fail
  go_ret
  exact ⟨rfl, HB2.out⟩
end Go.Proofs.Ytbpkmgkdbgdmeaa
