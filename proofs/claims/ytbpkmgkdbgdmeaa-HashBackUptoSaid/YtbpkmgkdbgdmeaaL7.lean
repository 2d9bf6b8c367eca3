import Derived.Test.YtbpkmgkdbgdmeaaL6
/-! Long, Same, and the reference's Key: the walks. -/
namespace Go.Proofs.Ytbpkmgkdbgdmeaa
open Go.RowKit
set_option linter.unusedSimpArgs false
set_option linter.unusedVariables false

def longL (l : List ByteArray) : Nat := (l.map fun s => 1 + s.size).sum
theorem longL_take (l : List ByteArray) {k : Nat} {d : ByteArray} (h : l[k]? = some d) : longL (l.take (k + 1)) = longL (l.take k) + 1 + d.size := by
  unfold longL
  rw [List.take_add_one, h, List.map_append, List.sum_append]
  simp
  omega
theorem longL_append (a b : List ByteArray) : longL (a ++ b) = longL a + longL b := by unfold longL; rw [List.map_append, List.sum_append]
theorem longL_split (l : List ByteArray) (k : Nat) : longL (l.take k) + longL (l.drop k) = longL l := by
  rw [← longL_append, List.take_append_drop]
theorem longL_mem {l : List ByteArray} {d : ByteArray} (h : d ∈ l) : 1 + d.size ≤ longL l := by
  induction l with
  | nil => simp at h
  | cons a l ih =>
    unfold longL at ih ⊢
    simp only [List.map_cons, List.sum_cons]
    rcases List.mem_cons.1 h with rfl | h
    · omega
    · have := ih h; omega
theorem longL_len (l : List ByteArray) : l.length ≤ longL l := by
  induction l with
  | nil => simp [longL]
  | cons a l ih =>
    unfold longL at ih ⊢
    simp only [List.map_cons, List.sum_cons, List.length_cons]
    omega
set_option maxHeartbeats 4000000 in
theorem long_calls (w : World) (v : Value) (l : List ByteArray) (H : StrAt w v l) (hs : longL l ≤ 4611686018427387904) :
    Calls Try.prog 13 #[v] w fun e w' => e = .returned (.int .i64 (longL l : Int)) ∧ w = w' := by
  obtain ⟨A, c, rfl, hm, hr⟩ := H
  have HR := Asd.mk hr
  have hll := longL_len l
  clear hr
  have hc0 : 0 ≤ l.length := Nat.zero_le _
  go_enter Try.func13, Try.ntmps13
  go_wp2
  go_loop [3, 4] (fun s i => ∃ k : Nat, k ≤ l.length ∧ i = .int .i64 (k : Int) ∧ s = .int .i64 ((longL (l.take k) : Nat) : Int)) (fun _ i => l.length - (intOf i).toNat)
  case atStart => exact ⟨0, Nat.zero_le _, rfl, rfl⟩
  case round =>
    obtain ⟨k, hk, rfl, rfl⟩ := hrel
    have hsp := longL_split l k
    by_cases hlt : k < l.length
    · obtain ⟨b, off, rfl, _, hcell⟩ := HR.out (by omega)
      obtain ⟨d, hd⟩ : ∃ d, l[k]? = some d := ⟨_, List.getElem?_eq_getElem hlt⟩
      have c1 := hcell k d hd
      have HL := Asd.mk (longL_take l hd)
      have hsp2 := longL_split l (k + 1)
      have hb2 : longL (l.take k) + 1 + d.size ≤ longL l := by have := HL.out; omega
      clear hcell hd hsp hsp2
      generalize hg : longL (l.take k) = s at *
      have HG := Asd.mk hg
      clear hg
      generalize longL l = n at *
      go_wp2
      refine ⟨⟨k + 1, by omega, by go_num, ?_⟩, by simp [intOf]; omega⟩
      rw [HL.out]
      go_num
    · obtain rfl : k = l.length := by omega
      clear hsp
      go_wp2
      go_ret
      exact ⟨ret_i64 (by first | rfl | rw [List.take_length]), rfl⟩
set_option maxHeartbeats 4000000 in
theorem same_calls (w : World) (v1 v2 : Value) (l1 l2 : List ByteArray) (h1 : StrAt w v1 l1) (h2 : StrAt w v2 l2) :
    Calls Try.prog 18 #[v1, v2] w fun e w' => e = .returned (.bool (decide (l1 = l2))) ∧ ∃ m, w' = w.drewN m := by
  obtain ⟨A1, c1, rfl, hm1, hs1⟩ := h1
  obtain ⟨A2, c2, rfl, hm2, hs2⟩ := h2
  by_cases hl : l1.length = l2.length
  · have hlb : ((l1.length : Int) != (l2.length : Int)) = false := by rw [bne_eq_false_iff_eq]; omega
    have HS1 := Asd.mk hs1
    have HS2 := Asd.mk hs2
    have HL := Asd.mk hl
    clear hs1 hs2 hl
    go_enter Try.func18, Try.ntmps18
    go_wp2
    go_loopg [5] l1.length (fun kq v5 w' => ∃ k : Nat, v5 = .int .i64 (k : Int) ∧ Asd (kq + k = l1.length) ∧ Asd (∀ j : Nat, j < k → l1[j]? = l2[j]?) ∧ Asd (∃ m, w' = w.drewN m))
    case atStart => exact ⟨0, rfl, ⟨by omega⟩, ⟨fun j hj => by omega⟩, ⟨0, rfl⟩⟩
    case round =>
      obtain ⟨k, rfl, HK, HE, HW⟩ := hrel
      have hk := HK.out
      cases gk with
      | zero =>
        have hge : ¬ (k < l1.length) := by omega
        have hge2 : (decide (k < l1.length)) = false := by rw [decide_eq_false_iff_not]; omega
        clear hk
        go_wp2
        go_ret
        refine ⟨?_, HW.out⟩
        have : l1 = l2 := by
          apply List.ext_getElem?
          intro j
          rcases Nat.lt_or_ge j k with h | h
          · exact HE.out j h
          · have := HL.out
            rw [List.getElem?_eq_none (by omega), List.getElem?_eq_none (by omega)]
        rw [decide_eq_true this]
        rfl
      | succ k1 =>
        have hlt : k < l1.length := by omega
        have hlt2 : k < l2.length := by have := HL.out; omega
        obtain ⟨g1, o1, rfl, hg1, hc1⟩ := HS1.out (by omega)
        obtain ⟨g2, o2, rfl, hg2, hc2⟩ := HS2.out (by omega)
        obtain ⟨s1, hs1⟩ : ∃ s, l1[k]? = some s := ⟨_, List.getElem?_eq_getElem hlt⟩
        obtain ⟨s2, hs2⟩ : ∃ s, l2[k]? = some s := ⟨_, List.getElem?_eq_getElem hlt2⟩
        obtain ⟨m, hm⟩ := HW.out
        subst hm
        have d1 : w.cell? ⟨g1, o1 + k, none⟩ = some (.string s1) := hc1 k s1 hs1
        have d2 : w.cell? ⟨g2, o2 + k, none⟩ = some (.string s2) := hc2 k s2 hs2
        have HS := Asd.mk (And.intro hs1 hs2)
        clear hs1 hs2 hc1 hc2 hk
        by_cases he : s1 = s2
        · have heb : (s1.toList != s2.toList) = false := by rw [he]; simp
          have heb2 : (s1.toList == s2.toList) = true := by rw [he]; simp
          have HEQ := Asd.mk he
          clear he
          go_wp2
          go_quiet (fail)
          go_wp2
          go_roundg k1
          case measure => omega
          case rel => exact ⟨k + 1, by go_num, ⟨by have := HK.out; omega⟩, ⟨fun j hj => by
            rcases Nat.lt_or_ge j k with h | h
            · exact HE.out j h
            · obtain rfl : j = k := by omega
              rw [HS.out.1, HS.out.2, HEQ.out]⟩, ⟨_, rfl⟩⟩
        · have heb : (s1.toList != s2.toList) = true := by
            rw [bne_iff_ne]
            intro e
            exact he (ByteArray.ext (by simpa [ByteArray.toList_eq] using e))
          have heb2 : (s1.toList == s2.toList) = false := by
            rw [beq_eq_false_iff_ne]
            intro e
            exact he (ByteArray.ext (by simpa [ByteArray.toList_eq] using e))
          have HNE := Asd.mk he
          clear he
          go_wp2
          go_quiet (fail)
          go_wp2
          go_ret
          refine ⟨?_, _, World.drewN_drewN ..⟩
          have : ¬ l1 = l2 := fun e => by
            have := HS.out.1
            rw [e, HS.out.2] at this
            injection this with this
            exact HNE.out this.symm
          rw [decide_eq_false this]
          rfl
  · have hlb : ((l1.length : Int) != (l2.length : Int)) = true := by rw [bne_iff_ne]; omega
    have hne : ¬ l1 = l2 := fun e => hl (by rw [e])
    rw [decide_eq_false hne]
    clear hl hne hs1 hs2
    go_enter Try.func18, Try.ntmps18
    go_wp2
    go_ret
    exact ⟨rfl, 0, rfl⟩
theorem bstr_add (l : List UInt8) (c : UInt8) : bstr l ++ ⟨#[c]⟩ = bstr (l ++ [c]) := str_one (bstr l) c
theorem bstr_size (l : List UInt8) : (bstr l).size = l.length := rfl
end Go.Proofs.Ytbpkmgkdbgdmeaa
