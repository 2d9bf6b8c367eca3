import Derived.Test.YtapclgjelekijaaB2
/-! The statements' example: known answers true. -/
namespace Go.Proofs.Ytapclgjelekijaa
open Go.RowKit

def kA : ByteArray := ⟨#[97]⟩
def kB : ByteArray := ⟨#[98]⟩
def kC : ByteArray := ⟨#[99]⟩
theorem kn1 : putL 2 [] kA 1 = ([(kA, 1)], true) := by decide +kernel
theorem kn2 : putL 2 [(kA, 1)] kB 2 = ([(kA, 1), (kB, 2)], true) := by decide +kernel
theorem kn3 : getL [(kA, 1), (kB, 2)] kA = [(kB, 2), (kA, 1)] := by decide +kernel
theorem kn4 : look [(kA, 1), (kB, 2)] kA = some 1 := by decide +kernel
theorem kn5 : putL 2 [(kB, 2), (kA, 1)] kC 3 = ([(kB, 2), (kA, 1)], false) := by decide +kernel

theorem Fr.belowH {F : Nat → Prop} {w w' : World} (h : Fr F w w') {B : Nat} (hB : B ≤ w.heap.size) (hF : ∀ k, F k → B ≤ k) : Below B w w' := h.below_of hB hF

set_option maxHeartbeats 8000000 in
theorem known_calls (w : World) : Calls Try.prog 10 #[] w fun e w' => e = .returned (.bool true) ∧ Below w.heap.size w w' := by
  go_enter Try.func10, Try.ntmps10
  go_wp2_with fail
  refine (new_calls w w.heap.size (Nat.le_refl _) 2 2 (by decide)).mono ?_
  rintro e w1 ⟨b, F1, rfl, hT1, hF1, hB1⟩
  have T1 := Asd.mk hT1
  clear hT1
  have hlo1 := hB1.size
  go_wp2_with fail
  refine (tput_calls w1 w.heap.size b 2 [] F1 hlo1 T1.out kA 1 (by decide)).mono ?_
  rintro e w2 ⟨rfl, F2, hT2, hF2, hr2⟩
  rw [kn1] at hT2 ⊢
  have T2 := Asd.mk hT2
  have hlo2 : w.heap.size ≤ w2.heap.size := Nat.le_trans hlo1 hr2.size
  have B2 := hB1.trans (hr2.belowH hlo1 hF1)
  have G2 : ∀ k, F2 k → w.heap.size ≤ k := fun k hk => by
    rcases hF2 k hk with h | h
    · exact hF1 k h
    · omega
  clear hT2 hF2 hr2 T1 hF1 hB1
  go_wp2_with fail
  refine (tput_calls w2 w.heap.size b 2 [(kA, 1)] F2 hlo2 T2.out kB 2 (by decide)).mono ?_
  rintro e w3 ⟨rfl, F3, hT3, hF3, hr3⟩
  rw [kn2] at hT3 ⊢
  have T3 := Asd.mk hT3
  have hlo3 : w.heap.size ≤ w3.heap.size := Nat.le_trans hlo2 hr3.size
  have B3 := B2.trans (hr3.belowH hlo2 G2)
  have G3 : ∀ k, F3 k → w.heap.size ≤ k := fun k hk => by
    rcases hF3 k hk with h | h
    · exact G2 k h
    · omega
  clear hT3 hF3 hr3 T2 G2 B2
  go_wp2_with fail
  have hg := get_calls w3 w.heap.size b 2 [(kA, 1), (kB, 2)] F3 T3.out kA (by decide)
  unfold peekV at hg
  rw [kn3, kn4] at hg
  refine hg.mono ?_
  clear hg
  rintro e w4 ⟨rfl, F4, hT4, hF4, hr4⟩
  have T4 := Asd.mk hT4
  have hlo4 : w.heap.size ≤ w4.heap.size := Nat.le_trans hlo3 hr4.size
  have B4 := B3.trans (hr4.belowH hlo3 G3)
  have G4 : ∀ k, F4 k → w.heap.size ≤ k := fun k hk => by
    rcases hF4 k hk with h | h
    · exact G3 k h
    · omega
  clear hT4 hF4 hr4 T3 G3 B3
  simp only [Option.getD_some, Option.isSome_some]
  go_wp2_with fail
  refine (tput_calls w4 w.heap.size b 2 [(kB, 2), (kA, 1)] F4 hlo4 T4.out kC 3 (by decide)).mono ?_
  rintro e w5 ⟨rfl, F5, hT5, hF5, hr5⟩
  rw [kn5] at hT5 ⊢
  have T5 := Asd.mk hT5
  have hlo5 : w.heap.size ≤ w5.heap.size := Nat.le_trans hlo4 hr5.size
  have B5 := B4.trans (hr5.belowH hlo4 G4)
  clear hT5 hF5 hr5 T4 G4 B4
  go_wp2_with fail
  refine (keys_calls w5 w.heap.size b 2 _ F5 T5.out).mono ?_
  rintro e w6 ⟨v, rfl, hv, hb6⟩
  have B6 := B5.trans (hb6.mono hlo5)
  have S6 := Asd.mk (StrAt.own (l := [kB, kA]) hv)
  have hlo6 : w.heap.size ≤ w6.heap.size := Nat.le_trans hlo5 hb6.size
  clear hv hb6 B5
  go_wp2_with fail
  have hb7 : Below w.heap.size w (w6.alloc (.cells #[.string kB, .string kA] 9)) := B6.alloc hlo6 _
  have hs1 : StrAt (w6.alloc (.cells #[.string kB, .string kA] 9)) v [kB, kA] := S6.out.below ((Below.refl _ w6).alloc (Nat.le_refl _) _)
  have hs2 : StrAt (w6.alloc (.cells #[.string kB, .string kA] 9)) (.slice (some ⟨w6.heap.size, 0, none⟩) 2 2) [kB, kA] :=
    StrAt.own (base := w6.heap.size) (n := 2) (World.ownsRow_lit w6 #[.string kB, .string kA] 2 (Nat.le_refl _) (by simp [maxLen]) rfl)
  refine (same_calls _ v _ [kB, kA] [kB, kA] hs1 hs2).mono ?_
  rintro e w7 ⟨rfl, m, rfl⟩
  rw [decide_eq_true rfl]
  have B7 := Asd.mk (belowN hb7 m)
  clear hb7 hs1 hs2 B6
  go_wp2_with fail
  refine (len_nil _).mono ?_
  rintro e w8 ⟨rfl, rfl⟩
  go_wp2_with fail
  go_ret
  exact ⟨rfl, B7.out⟩
end Go.Proofs.Ytapclgjelekijaa
