import Derived.Test.YtapclgjelekijaaC0
/-! Long; what the laws' guards say. -/
namespace Go.Proofs.Ytapclgjelekijaa
open Go.RowKit
set_option linter.unusedSimpArgs false
set_option linter.unusedVariables false

def longL (l : List Act3) : Nat := (l.map fun d => 1 + d.key.size).sum
theorem longL_take (l : List Act3) {k : Nat} {d : Act3} (h : l[k]? = some d) : longL (l.take (k + 1)) = longL (l.take k) + 1 + d.key.size := by
  unfold longL
  rw [List.take_add_one, h, List.map_append, List.sum_append]
  simp
  omega
theorem longL_le (l : List Act3) (h : ∀ d, d ∈ l → d.key.size ≤ 140737488351232) : longL l ≤ l.length * 140737488351233 := by
  induction l with
  | nil => simp [longL]
  | cons d l ih =>
    have h1 := h d (by simp)
    have h2 := ih fun x hx => h x (by simp [hx])
    unfold longL at h2 ⊢
    simp only [List.map_cons, List.sum_cons, List.length_cons]
    omega
theorem longL_mem {l : List Act3} {d : Act3} (h : d ∈ l) : 1 + d.key.size ≤ longL l := by
  induction l with
  | nil => simp at h
  | cons a l ih =>
    unfold longL at ih ⊢
    simp only [List.map_cons, List.sum_cons]
    rcases List.mem_cons.1 h with rfl | h
    · omega
    · have := ih h; omega

set_option maxHeartbeats 4000000 in
theorem long_calls (w : World) (v : Value) (l : List Act3) (H : DoAt w v l) (hs : ∀ d, d ∈ l → d.key.size ≤ 140737488351232) (hl : l.length ≤ 60) :
    Calls Try.prog 9 #[v] w fun e w' => e = .returned (.int .i64 (longL l : Int)) ∧ w' = w := by
  obtain ⟨A, c, rfl, hm, hr⟩ := H
  have HR := Asd.mk hr
  have HS := Asd.mk hs
  clear hr hs
  have hc0 : 0 ≤ l.length := Nat.zero_le _
  go_enter Try.func9, Try.ntmps9
  go_wp2
  go_loop [3, 4] (fun s i => ∃ k : Nat, k ≤ l.length ∧ i = .int .i64 (k : Int) ∧ s = .int .i64 ((longL (l.take k) : Nat) : Int)) (fun _ i => l.length - (intOf i).toNat)
  case atStart => exact ⟨0, Nat.zero_le _, rfl, rfl⟩
  case round =>
    obtain ⟨k, hk, rfl, rfl⟩ := hrel
    by_cases hlt : k < l.length
    · obtain ⟨b, off, rfl, _, hcell⟩ := HR.out (by omega)
      obtain ⟨d, hd⟩ : ∃ d, l[k]? = some d := ⟨_, List.getElem?_eq_getElem hlt⟩
      obtain ⟨_, c1, _⟩ := hcell k d hd
      have hds := HS.out d (List.mem_of_getElem? hd)
      have hb := longL_le (l.take k) (fun x hx => HS.out x (List.mem_of_mem_take hx))
      have hb2 : longL (l.take k) ≤ 60 * 140737488351233 := by
        refine Nat.le_trans hb (Nat.mul_le_mul_right _ ?_)
        have := List.length_take_le k l
        omega
      have HL := Asd.mk (longL_take l hd)
      clear hcell hd hb
      generalize longL (l.take k) = s at *
      go_wp2
      refine ⟨⟨k + 1, by omega, by go_num, ?_⟩, by simp [intOf]; omega⟩
      rw [HL.out]
      go_num
    · go_wp2
      go_ret
      exact ⟨by rw [List.take_of_length_le (by omega)]; rfl, rfl⟩
end Go.Proofs.Ytapclgjelekijaa
