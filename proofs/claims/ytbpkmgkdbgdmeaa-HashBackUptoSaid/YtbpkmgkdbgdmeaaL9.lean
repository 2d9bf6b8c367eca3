import Derived.Test.YtbpkmgkdbgdmeaaL8
/-! The reference's Parts: the walk. -/
namespace Go.Proofs.Ytbpkmgkdbgdmeaa
open Go.RowKit
set_option linter.unusedSimpArgs false
set_option linter.unusedVariables false

theorem parR_colon (r now : List UInt8) (out : List (List UInt8)) : parR (58 :: r) now out = parR r [] (out ++ [now]) := by conv => lhs; unfold parR; rw [if_pos rfl]
theorem parR_esc (c : UInt8) (r now : List UInt8) (out : List (List UInt8)) : parR (92 :: c :: r) now out = parR r (now ++ [c]) out := by
  conv => lhs; unfold parR; rw [if_neg (by decide), if_pos rfl]
theorem parR_last (now : List UInt8) (out : List (List UInt8)) : parR [92] now out = none := by
  conv => lhs; unfold parR; rw [if_neg (by decide), if_pos rfl]
theorem parR_other {b : UInt8} (h1 : ¬ b = 58) (h2 : ¬ b = 92) (r now : List UInt8) (out : List (List UInt8)) : parR (b :: r) now out = parR r (now ++ [b]) out := by
  conv => lhs; unfold parR; rw [if_neg h1, if_neg h2]
theorem toList_ne {a b : ByteArray} (h : a ≠ b) : a.toList ≠ b.toList := fun e => h (ByteArray.ext (by simpa [ByteArray.toList_eq] using e))

set_option maxRecDepth 20000 in
set_option maxHeartbeats 8000000 in
theorem rparts_calls (w : World) (s : ByteArray) (hs : s.size ≤ 2000) : Calls Try.prog 15 #[.string s] w (PartsPost w s) := by
  obtain ⟨i0, hi, hz0, hz1, hz2⟩ := info_parts info9
  have HLEN : Asd (s.data.toList.length = s.size) := ⟨Array.length_toList⟩
  have HPR : Asd (parP s.data.toList [] [] = refP s.data.toList) := ⟨parP_refP _⟩
  go_enter Try.func15, Try.ntmps15
  go_wp2_with fail
  go_loopg [4, 5, 6] s.size (fun kq v4 v5 v6 wr => ∃ (k : Nat) (now : List UInt8) (out : List (List UInt8)) (S : ByteArray), v6 = .int .i64 (k : Int) ∧ v5 = .string S ∧ Asd (S = bstr now) ∧ Asd (k + kq = s.size) ∧ Asd (now.length ≤ k ∧ out.length ≤ k ∧ ∀ p ∈ out, p.length ≤ 2000) ∧
    Asd (parR (s.data.toList.drop k) now out = parR s.data.toList [] []) ∧ Asd (wr.ownsRow w.heap.size 9 1 v4 out.length (strsV out)) ∧ Asd (Below w.heap.size w wr))
  case atStart => exact ⟨0, [], [], _, rfl, rfl, ⟨rfl⟩, ⟨by omega⟩, ⟨by simp⟩, ⟨rfl⟩, ⟨World.ownsRow_nil _ _ _ _⟩, ⟨Below.refl _ _⟩⟩
  case round =>
    obtain ⟨k, now, out, S, rfl, rfl, HS, HK, HN, HT, HR, HW⟩ := hrel
    have hssz : S.size ≤ 2000 := by rw [HS.out, bstr_size]; have := HN.out; have := HK.out; omega
    cases gk with
    | zero =>
      obtain rfl : k = s.size := by have := HK.out; omega
      have hge2 : (decide (s.size < s.size)) = false := by rw [decide_eq_false_iff_not]; omega
      have HT2 : Asd (parR s.data.toList [] [] = some out) := ⟨by
        have := HT.out
        rw [List.drop_of_length_le (by rw [HLEN.out]; exact Nat.le_refl _)] at this
        exact this.symm⟩
      have HST : Asd (StrAt wr u4 (out.map bstr)) := ⟨by
        refine StrAt.own (n := out.length) (base := w.heap.size) ?_
        have := HR.out
        unfold strsV at this
        rw [List.map_map]
        exact this⟩
      have HKC := Asd.mk (rkey_calls wr u4 (out.map bstr) HST.out (by
        intro x hx
        obtain ⟨p, hp, rfl⟩ := List.mem_map.1 hx
        exact HN.out.2.2 p hp) (by rw [List.length_map]; have := HN.out; omega))
      rw [keyL_bstr] at HKC
      have hbs : (⟨(keyLL out).toArray⟩ : ByteArray) = bstr (keyLL out) := rfl
      rw [hbs] at HKC
      clear hbs
      by_cases hk : keyLL out = s.data.toList
      · have HE : Asd (parP s.data.toList [] [] = some out) := ⟨by
          rw [HPR.out]
          unfold refP
          rw [HT2.out]
          simp only
          rw [if_pos hk]⟩
        have hks : bstr (keyLL out) = s := by rw [hk, bstr_list]
        rw [hks] at HKC
        have hneb : (s.toList != s.toList) = false := by simp
        clear hk hks
        go_wp2_with fail
        refine HKC.out.mono ?_
        rintro e w2 ⟨rfl, hb⟩
        have HW2 := Asd.mk hb
        clear hb
        go_wp2_with fail
        refine bodyPost_ret (v := .tuple #[u4, .bool true]) (by simp [results, Try.results15, go_sem]) rfl ?_
        refine ⟨u4, ?_, ?_, HW.out.trans (HW2.out.mono HW.out.size)⟩
        · rw [HE.out]; rfl
        · rw [HE.out]; exact HST.out.below HW2.out (Nat.le_refl _)
      · have HE : Asd (parP s.data.toList [] [] = none) := ⟨by
          rw [HPR.out]
          unfold refP
          rw [HT2.out]
          simp only
          rw [if_neg hk]⟩
        have hks : bstr (keyLL out) ≠ s := fun e => hk (by
          have h2 := congrArg (fun x : ByteArray => x.data.toList) e
          simpa [bstr] using h2)
        generalize bstr (keyLL out) = KS at *
        have hneb : (KS.toList != s.toList) = true := by rw [bne_iff_ne]; exact toList_ne hks
        have hneb2 : (KS.toList == s.toList) = false := by rw [beq_eq_false_iff_ne]; exact toList_ne hks
        clear hk hks
        go_wp2_with fail
        refine HKC.out.mono ?_
        rintro e w2 ⟨rfl, hb⟩
        have HW2 := Asd.mk hb
        clear hb
        go_wp2_with fail
        refine bodyPost_ret (v := .tuple #[.slice none 0 0, .bool false]) (by simp [results, Try.results15, go_sem]) rfl ?_
        refine ⟨.slice none 0 0, ?_, ?_, HW.out.trans (HW2.out.mono HW.out.size)⟩
        · rw [HE.out]; rfl
        · rw [HE.out]; exact StrAt.nil _
    | succ k1 =>
      have hlt : k < s.size := by have := HK.out; omega
      have hlt2 : decide (k < s.size) = true := decide_eq_true hlt
      obtain ⟨b, hb⟩ : ∃ b, s.data.toList[k]? = some b := ⟨_, List.getElem?_eq_getElem (by rw [HLEN.out]; exact hlt)⟩
      have hbk : ∀ h, (s[k]'h).toNat = b.toNat := fun h => by
        have h2 : s.data.toList[k]? = some (s.data.toList[k]'(by rw [HLEN.out]; exact hlt)) := List.getElem?_eq_getElem _
        rw [hb] at h2
        injection h2 with h2
        rw [h2]
        rfl
      have HD := Asd.mk (drop_cons hb)
      clear hb
      by_cases h58 : b = 58
      · subst h58
        have hbk2 : ∀ h, (s[k]'h).toNat = 58 := hbk
        clear hbk
        have HT2 : Asd (parR (s.data.toList.drop (k + 1)) [] (out ++ [now]) = parR s.data.toList [] []) := ⟨by rw [← HT.out, HD.out, parR_colon]⟩
        have hob : out.length + 1 ≤ 2001 := by have := HN.out; have := HK.out; omega
        have HCELL : Asd ((wr.alloc (.cells #[.string S] 9)).cell? ⟨wr.heap.size, 0, none⟩ = some (.string S)) := ⟨cell_of_row _ _ 0 _ _ _ (heap_alloc_new _ _)⟩
        have hown0 := HR.out.alloc (.cells #[.string S] 9)
        have HWS := Asd.mk HW.out.size
        generalize hsv : strsV out = sv at *
        have HSV := Asd.mk hsv
        clear hsv
        go_wp2_with (at_builtin; refine wpList_append_own _ rfl _ _ 29 rfl w.heap.size 9 i0 (.string ⟨#[]⟩) 1 16 Try.underlying29 hi hz0 hz1 hz2 rfl (by decide) _ _ _ rfl hown0 ⟨wr.heap.size, 0, none⟩ 1 1 [.string S] rfl rfl ?c1 ?c2 ?c3 ?c4 ?c5 ?_)
        case c1 =>
          intro j u hj
          match j, hj with
          | 0, hj => simp at hj; subst hj; exact HCELL.out
        case c2 => intro u hu; simp at hu; subst hu; rfl
        case c3 => unfold maxLen; omega
        case c4 => omega
        case c5 => have := HWS.out; simp; omega
        intro v3 w3 hown3 hgrow3 _
        have HR3 : Asd (w3.ownsRow w.heap.size 9 1 v3 (out ++ [now]).length (strsV (out ++ [now]))) := ⟨by
          rw [List.length_append, strsV_snoc, HSV.out, ← HS.out]
          exact hown3⟩
        have HW3 : Asd (Below w.heap.size w w3) := ⟨(HW.out.alloc HWS.out _).grown hgrow3 (by have := HWS.out; simp; omega) (fun k hk => (hown0.lt k hk).1)⟩
        clear hown0 hown3 hgrow3
        go_wp2_with fail
        go_roundg k1
        case measure => omega
        case rel => exact ⟨k + 1, [], out ++ [now], _, by go_num, rfl, ⟨rfl⟩, ⟨by have := HK.out; omega⟩, ⟨by
          have := HN.out
          have hk := HK.out
          refine ⟨by simp, by rw [List.length_append]; simp; omega, fun p hp => ?_⟩
          rcases List.mem_append.1 hp with h | h
          · exact this.2.2 p h
          · rw [List.mem_singleton.1 h]; omega⟩, HT2, HR3, HW3⟩
      · by_cases h92 : b = 92
        · subst h92
          have hbk2 : ∀ h, (s[k]'h).toNat = 92 := hbk
          clear hbk
          by_cases hk1 : k + 1 < s.size
          · obtain ⟨c, hc⟩ : ∃ c, s.data.toList[k + 1]? = some c := ⟨_, List.getElem?_eq_getElem (by rw [HLEN.out]; exact hk1)⟩
            have hck : ∀ h, (s[k + 1]'h).toNat = c.toNat := fun h => by
              have h2 : s.data.toList[k + 1]? = some (s.data.toList[k + 1]'(by rw [HLEN.out]; exact hk1)) := List.getElem?_eq_getElem _
              rw [hc] at h2
              injection h2 with h2
              rw [h2]
              rfl
            have HD2 := Asd.mk (drop_cons hc)
            have hk1b : decide (k + 1 < s.size) = true := decide_eq_true hk1
            have hk1c : (k : Int) + 1 < (s.size : Int) := by omega
            have hk1d : (0 : Int) ≤ (k : Int) + 1 := by omega
            have hk1e : ((k : Int) + 1).toNat = k + 1 := by omega
            have hk1f : (((k : Int) + 1) == (s.size : Int)) = false := beq_eq_false_iff_ne.2 (by omega)
            have HT2 : Asd (parR (s.data.toList.drop (k + 1 + 1)) (now ++ [c]) out = parR s.data.toList [] []) := ⟨by rw [← HT.out, HD.out, HD2.out, parR_esc]⟩
            obtain ⟨S4, hadd4⟩ : ∃ S4, S ++ ⟨#[c]⟩ = S4 := ⟨_, rfl⟩
            have HS4 : Asd (S4 = bstr (now ++ [c])) := ⟨by rw [← hadd4, HS.out, bstr_add]⟩
            have hcv := conv_one wr c
            have hb1s : (⟨#[c]⟩ : ByteArray).size = 1 := rfl
            have hcl : c.toNat < 256 := c.toNat_lt
            have HRA := Asd.mk (HR.out.alloc (.cells #[.int .u8 (c.toNat : Int)] 5))
            have HWA := Asd.mk (HW.out.alloc HW.out.size (.cells #[.int .u8 (c.toNat : Int)] 5))
            clear hc
            generalize (⟨#[c]⟩ : ByteArray) = sb at *
            generalize c.toNat = cn at *
            go_wp2_with fail
            go_roundg (k1 - 1)
            case measure => omega
            case rel => exact ⟨k + 1 + 1, now ++ [c], out, S4, by go_num, rfl, HS4, ⟨by have := HK.out; omega⟩, ⟨by have := HN.out; refine ⟨by rw [List.length_append]; simp; omega, by omega, this.2.2⟩⟩, HT2, HRA, HWA⟩
          · have hk1f : (((k : Int) + 1) == (s.size : Int)) = true := by rw [beq_iff_eq]; omega
            have HT3 : Asd (parP s.data.toList [] [] = none) := ⟨by
              rw [HPR.out]
              unfold refP
              rw [← HT.out, HD.out, List.drop_of_length_le (by rw [HLEN.out]; omega), parR_last]⟩
            go_wp2_with fail
            refine bodyPost_ret (v := .tuple #[.slice none 0 0, .bool false]) (by simp [results, Try.results15, go_sem]) rfl ?_
            refine ⟨.slice none 0 0, ?_, ?_, HW.out⟩
            · rw [HT3.out]; rfl
            · rw [HT3.out]; exact StrAt.nil _
        · have hn1 : b.toNat ≠ 58 := fun e => h58 (UInt8.toNat_inj.1 e)
          have hn2 : b.toNat ≠ 92 := fun e => h92 (UInt8.toNat_inj.1 e)
          have hb1 : (((b.toNat : Nat) : Int) == 92) = false := beq_eq_false_iff_ne.2 (by omega)
          have hb2 : (((b.toNat : Nat) : Int) == 58) = false := beq_eq_false_iff_ne.2 (by omega)
          have HT2 : Asd (parR (s.data.toList.drop (k + 1)) (now ++ [b]) out = parR s.data.toList [] []) := ⟨by rw [← HT.out, HD.out, parR_other h58 h92]⟩
          obtain ⟨S4, hadd4⟩ : ∃ S4, S ++ ⟨#[b]⟩ = S4 := ⟨_, rfl⟩
          have HS4 : Asd (S4 = bstr (now ++ [b])) := ⟨by rw [← hadd4, HS.out, bstr_add]⟩
          have hcv := conv_one wr b
          have hb1s : (⟨#[b]⟩ : ByteArray).size = 1 := rfl
          have hcl : b.toNat < 256 := b.toNat_lt
          have HRA := Asd.mk (HR.out.alloc (.cells #[.int .u8 (b.toNat : Int)] 5))
          have HWA := Asd.mk (HW.out.alloc HW.out.size (.cells #[.int .u8 (b.toNat : Int)] 5))
          generalize (⟨#[b]⟩ : ByteArray) = sb at *
          generalize b.toNat = bn at *
          go_wp2_with fail
          go_roundg k1
          case measure => omega
          case rel => exact ⟨k + 1, now ++ [b], out, S4, by go_num, rfl, HS4, ⟨by have := HK.out; omega⟩, ⟨by have := HN.out; refine ⟨by rw [List.length_append]; simp; omega, by omega, this.2.2⟩⟩, HT2, HRA, HWA⟩
end Go.Proofs.Ytbpkmgkdbgdmeaa
