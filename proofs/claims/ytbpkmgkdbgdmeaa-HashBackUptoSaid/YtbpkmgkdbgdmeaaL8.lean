import Derived.Test.YtbpkmgkdbgdmeaaL7
/-! The reference's Key: the walk. -/
namespace Go.Proofs.Ytbpkmgkdbgdmeaa
open Go.RowKit
set_option linter.unusedSimpArgs false
set_option linter.unusedVariables false

set_option maxRecDepth 20000 in
set_option maxHeartbeats 8000000 in
theorem rkey_calls (w : World) (v : Value) (l : List ByteArray) (H : StrAt w v l) (hs : ∀ s ∈ l, s.size ≤ 2000) (hl : l.length ≤ 2000) :
    Calls Try.prog 17 #[v] w fun e w' => e = .returned (.string ⟨(keyL l).toArray⟩) ∧ Below w.heap.size w w' := by
  obtain ⟨A, c, rfl, -, hc⟩ := H
  have HC := Asd.mk hc
  have HS := Asd.mk hs
  clear hc hs
  have hl0 : (0 : Int) ≤ l.length := by omega
  go_enter Try.func17, Try.ntmps17
  go_wp2_with fail
  go_loopg [3, 4] l.length (fun kq v3 v4 wr => ∃ (k : Nat) (S : ByteArray), v4 = .int .i64 (k : Int) ∧ v3 = .string S ∧ Asd (kq + k = l.length) ∧ Asd (S = bstr (keyL (l.take k))) ∧ Asd (Below w.heap.size w wr))
  case atStart => exact ⟨0, _, rfl, rfl, ⟨by omega⟩, ⟨rfl⟩, ⟨Below.refl _ _⟩⟩
  case round =>
    obtain ⟨k, S, rfl, rfl, HK, HSS, HW⟩ := hrel
    have hk := HK.out
    cases gk with
    | zero =>
      have hge2 : (decide (k < l.length)) = false := by rw [decide_eq_false_iff_not]; omega
      obtain rfl : k = l.length := by omega
      clear hk
      have HS2 : Asd (S = bstr (keyL l)) := ⟨by have := HSS.out; rwa [List.take_length] at this⟩
      go_wp2_with fail
      go_ret
      exact ⟨by rw [HS2.out]; rfl, HW.out⟩
    | succ k1 =>
      have hlt : k < l.length := by omega
      have hlt2 : decide (k < l.length) = true := decide_eq_true hlt
      obtain ⟨g, off, rfl, hg, hcell⟩ := HC.out (by omega)
      obtain ⟨p, hp⟩ : ∃ p, l[k]? = some p := ⟨_, List.getElem?_eq_getElem hlt⟩
      have hps : p.size ≤ 2000 := HS.out p (List.mem_of_getElem? hp)
      have HCP := Asd.mk (hcell k p hp)
      have HT := Asd.mk (keyL_take hp)
      have HLEN : Asd ((keyL (l.take k)).length ≤ 2000 * 4001) := ⟨by
        have h1 := keyL_length_le (l.take k) 2000 (fun s hs => HS.out s (List.mem_of_mem_take hs))
        have h2 := List.length_take_le k l
        have h3 : (l.take k).length * (2 * 2000 + 1) ≤ 2000 * 4001 := Nat.mul_le_mul (by omega) (by omega)
        omega⟩
      clear hcell hp hk
      obtain ⟨wo, rfl⟩ : ∃ wo : World, wo = wr := ⟨_, rfl⟩
      go_wp2_with fail
      go_loopg [3, 5] p.size (fun kq2 v3 v5 wx => ∃ (m : Nat) (S : ByteArray), v5 = .int .i64 (m : Int) ∧ v3 = .string S ∧ Asd (kq2 + m = p.size) ∧ Asd (S = bstr (keyL (l.take k) ++ escL (p.data.toList.take m))) ∧ Asd (Below w.heap.size w wx))
      case atStart => exact ⟨0, _, rfl, rfl, ⟨by omega⟩, ⟨by rw [HSS.out]; simp [escL]⟩, HW⟩
      case round =>
        obtain ⟨m, S2, rfl, rfl, HM, HS2, HW2⟩ := hrel
        have hm := HM.out
        have hcw := (HW2.out.cell (p := ⟨g, off + k, none⟩) hg).trans HCP.out
        have HSZ : Asd (S2.size ≤ 2000 * 4001 + 4000) := ⟨by
          have h1 := HLEN.out
          have h2 := escL_length_le (p.data.toList.take m)
          have h3 := List.length_take_le m p.data.toList
          have h4 : p.data.toList.length = p.size := Array.length_toList
          have h5 : (p.data.toList.take m).length ≤ p.data.toList.length := List.length_take_le' m p.data.toList
          rw [HS2.out, bstr_size, List.length_append]
          omega⟩
        have hsz := HSZ.out
        cases gk with
        | zero =>
          have hge2 : (decide (m < p.size)) = false := by rw [decide_eq_false_iff_not]; omega
          obtain rfl : m = p.size := by omega
          clear hm
          obtain ⟨S3, hadd⟩ : ∃ S3, S2 ++ ⟨#[58]⟩ = S3 := ⟨_, rfl⟩
          have HS3 : Asd (S3 = bstr (keyL (l.take (k + 1)))) := ⟨by
            have hpa : p.data.toList.take p.size = p.data.toList := List.take_of_length_le (by rw [Array.length_toList]; exact Nat.le_refl _)
            rw [← hadd, HS2.out, bstr_add, HT.out, hpa]
            unfold part1
            rw [List.append_assoc]⟩
          go_wp2_with fail
          go_roundg k1
          case measure => omega
          case rel => exact ⟨k + 1, S3, by go_num, rfl, ⟨by have := HK.out; omega⟩, HS3, HW2⟩
        | succ m1 =>
          have hlt3 : decide (m < p.size) = true := by rw [decide_eq_true_iff]; omega
          have hmlt : m < p.size := by omega
          obtain ⟨b, hb⟩ : ∃ b, p.data.toList[m]? = some b := ⟨_, List.getElem?_eq_getElem (by rw [Array.length_toList]; exact hmlt)⟩
          have hbk : ∀ h, (p[m]'h).toNat = b.toNat := fun h => by
            have h2 : p.data.toList[m]? = some (p.data.toList[m]'(by rw [Array.length_toList]; exact hmlt)) := List.getElem?_eq_getElem _
            rw [hb] at h2
            injection h2 with h2
            rw [h2]
            rfl
          have HET := Asd.mk (escL_take hb)
          have hb256 : b.toNat < 256 := b.toNat_lt
          clear hb hm
          by_cases hsp : isSp b = true
          · obtain ⟨S3, hadd⟩ : ∃ S3, S2 ++ ⟨#[92]⟩ = S3 := ⟨_, rfl⟩
            have hadd1 : S2 ++ b1 = S3 := hadd
            have HS3 : Asd (S3 = bstr (keyL (l.take k) ++ escL (p.data.toList.take m) ++ [92])) := ⟨by rw [← hadd, HS2.out, bstr_add]⟩
            have hsz3 : S3.size ≤ 2000 * 4001 + 4001 := by
              rw [← hadd, ByteArray.size_append]
              have : (⟨#[92]⟩ : ByteArray).size = 1 := rfl
              omega
            have hcv1 := conv92 wr
            have hsz1 : b1.size = 1 := rfl
            have HW3 := Asd.mk (HW2.out.alloc HW2.out.size (.cells #[.int .u8 92] 5))
            have hcc : b.toNat = 58 ∨ b.toNat = 92 := by
              unfold isSp at hsp
              simp at hsp
              rcases hsp with h | h <;> rw [h] <;> decide
            have hcw3 := (HW3.out.cell (p := ⟨g, off + k, none⟩) hg).trans HCP.out
            obtain ⟨S4, hadd4⟩ : ∃ S4, S3 ++ ⟨#[b]⟩ = S4 := ⟨_, rfl⟩
            have HS4 : Asd (S4 = bstr (keyL (l.take k) ++ escL (p.data.toList.take (m + 1)))) := ⟨by
              rw [← hadd4, HS3.out, bstr_add, HET.out, esc1_sp hsp]
              simp⟩
            have HCV := Asd.mk (fun W => conv_one W b)
            have HSB := Asd.mk hsp
            have hb1s : (⟨#[b]⟩ : ByteArray).size = 1 := rfl
            generalize (⟨#[b]⟩ : ByteArray) = sb at *
            clear hsp hadd
            generalize b.toNat = bn at *
            generalize b1 = s1 at *
            rcases hcc with rfl | rfl
            all_goals
              go_upto_region 11 with (fail)
              clear hcv1 hcw
              generalize (wr.alloc (.cells #[.int .u8 92] 5)) = w3 at *
              have hcv58 : ∀ x, x = 58 → (convert 25 9 (.slice (some ⟨w3.heap.size, 0, none⟩) 1 1)).run Try.prog (w3.alloc (.cells #[.int .u8 ((x : Nat) : Int)] 5)) = .ok (.string sb) (w3.alloc (.cells #[.int .u8 ((x : Nat) : Int)] 5)) → (convert 25 9 (.slice (some ⟨w3.heap.size, 0, none⟩) 1 1)).run Try.prog (w3.alloc (.cells #[.int .u8 58] 5)) = .ok (.string sb) (w3.alloc (.cells #[.int .u8 58] 5)) := fun x hx h => by subst hx; exact h
              have hcv92 : ∀ x, x = 92 → (convert 25 9 (.slice (some ⟨w3.heap.size, 0, none⟩) 1 1)).run Try.prog (w3.alloc (.cells #[.int .u8 ((x : Nat) : Int)] 5)) = .ok (.string sb) (w3.alloc (.cells #[.int .u8 ((x : Nat) : Int)] 5)) → (convert 25 9 (.slice (some ⟨w3.heap.size, 0, none⟩) 1 1)).run Try.prog (w3.alloc (.cells #[.int .u8 92] 5)) = .ok (.string sb) (w3.alloc (.cells #[.int .u8 92] 5)) := fun x hx h => by subst hx; exact h
              first
                | replace hcv58 := hcv58 _ rfl (HCV.out w3)
                | replace hcv92 := hcv92 _ rfl (HCV.out w3)
              go_wp2_with fail
              go_roundg m1
              case measure => omega
              case rel => exact ⟨m + 1, S4, by go_num, rfl, ⟨by have := HM.out; omega⟩, HS4, ⟨HW3.out.alloc HW3.out.size _⟩⟩
          · have hspf : isSp b = false := by simpa using hsp
            have hn1 : b.toNat ≠ 58 := fun e => by rw [show b = 58 from UInt8.toNat_inj.1 e] at hspf; exact absurd hspf (by decide)
            have hn2 : b.toNat ≠ 92 := fun e => by rw [show b = 92 from UInt8.toNat_inj.1 e] at hspf; exact absurd hspf (by decide)
            have hb1 : (((b.toNat : Nat) : Int) == 92) = false := beq_eq_false_iff_ne.2 (by omega)
            have hb2 : (((b.toNat : Nat) : Int) == 58) = false := beq_eq_false_iff_ne.2 (by omega)
            obtain ⟨S4, hadd4⟩ : ∃ S4, S2 ++ ⟨#[b]⟩ = S4 := ⟨_, rfl⟩
            have HS4 : Asd (S4 = bstr (keyL (l.take k) ++ escL (p.data.toList.take (m + 1)))) := ⟨by
              rw [← hadd4, HS2.out, bstr_add, HET.out, esc1_no hspf]
              simp⟩
            have hcv := conv_one wr b
            have hb1s : (⟨#[b]⟩ : ByteArray).size = 1 := rfl
            generalize (⟨#[b]⟩ : ByteArray) = sb at *
            clear hsp hspf
            generalize b.toNat = bn at *
            go_wp2_with fail
            go_roundg m1
            case measure => omega
            case rel => exact ⟨m + 1, S4, by go_num, rfl, ⟨by have := HM.out; omega⟩, HS4, ⟨HW2.out.alloc HW2.out.size _⟩⟩
end Go.Proofs.Ytbpkmgkdbgdmeaa
