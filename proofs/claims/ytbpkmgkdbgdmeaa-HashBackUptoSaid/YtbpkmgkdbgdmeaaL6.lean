import Derived.Test.YtbpkmgkdbgdmeaaL5
import Derived.WalkMore
/-! Parts: the walk. -/
namespace Go.Proofs.Ytbpkmgkdbgdmeaa
open Go.RowKit
set_option linter.unusedSimpArgs false
set_option linter.unusedVariables false

set_option maxRecDepth 20000 in
set_option maxHeartbeats 8000000 in
theorem parts_calls (w : World) (s : ByteArray) (hs : s.size ≤ 10000) : Calls Try.prog 14 #[.string s] w (PartsPost w s) := by
  have HP0 : Asd (PAt w (w.alloc (.cells #[.pointer none, .slice none 0 0] 40)) [] (.slice none 0 0) []) :=
    ⟨⟨builder_new _ _ _ (Nat.le_refl _) (heap_alloc_new _ _), World.ownsRow_nil _ _ _ _, (Below.refl _ w).alloc (Nat.le_refl _) _⟩⟩
  obtain ⟨i0, hi, hz0, hz1, hz2⟩ := info_parts info9
  have HLEN : Asd (s.data.toList.length = s.size) := ⟨Array.length_toList⟩
  go_enter Try.func14, Try.ntmps14
  go_wp2_with fail
  go_step3
  go_wp2_with fail
  go_step3
  go_wp2_with fail
  generalize (w.alloc (.cells #[.pointer none, .slice none 0 0] 40)) = w1 at *
  go_loopg [4, 6, 7] s.size (fun kq v4 v6 v7 wr => ∃ (k : Nat) (now : List UInt8) (out : List (List UInt8)) (op : Bool), v7 = .int .i64 (k : Int) ∧ v6 = .bool op ∧ Asd (k + kq = s.size) ∧ Asd (op = !now.isEmpty) ∧ Asd (now.length + out.length ≤ k) ∧
    Asd (parP (s.data.toList.drop k) now out = parP s.data.toList [] []) ∧ Asd (PAt w wr now v4 out))
  case atStart => exact ⟨0, [], [], false, rfl, rfl, ⟨by omega⟩, ⟨rfl⟩, ⟨by simp⟩, ⟨rfl⟩, HP0⟩
  case round =>
    obtain ⟨k, now, out, op, rfl, rfl, HK, HO, HN, HT, HP⟩ := hrel
    clear HP0
    cases gk with
    | zero =>
      obtain rfl : k = s.size := by have := HK.out; omega
      have hge2 : (decide (s.size < s.size)) = false := by rw [decide_eq_false_iff_not]; omega
      have HT2 : Asd (parP [] now out = parP s.data.toList [] []) := ⟨by
        have := HT.out
        rwa [List.drop_of_length_le (by rw [HLEN.out]; exact Nat.le_refl _)] at this⟩
      by_cases hn : now = []
      · have hop : op = false := by rw [HO.out, hn]; rfl
        subst hop
        have HT3 : Asd (parP s.data.toList [] [] = some out) := ⟨by rw [← HT2.out]; unfold parP; rw [if_pos hn]⟩
        clear hn
        go_wp2_with fail
        try rw [Exit.noGoto_ret]
        refine bodyPost_ret (v := .tuple #[u4, .bool true]) (by simp [results, Try.results14, go_sem]) rfl ?_
        refine ⟨u4, ?_, ?_, HP.out.bel⟩
        · rw [HT3.out]; rfl
        · rw [HT3.out]
          refine StrAt.own (n := out.length) (base := w.heap.size) ?_
          have := HP.out.o
          unfold strsV at this
          rw [List.map_map]
          exact this
      · have hop : op = true := by rw [HO.out]; simpa using hn
        subst hop
        have HT3 : Asd (parP s.data.toList [] [] = none) := ⟨by rw [← HT2.out]; unfold parP; rw [if_neg hn]⟩
        clear hn
        go_wp2_with fail
        try rw [Exit.noGoto_ret]
        refine bodyPost_ret (v := .tuple #[.slice none 0 0, .bool false]) (by simp [results, Try.results14, go_sem]) rfl ?_
        refine ⟨.slice none 0 0, ?_, ?_, HP.out.bel⟩
        · rw [HT3.out]; rfl
        · rw [HT3.out]; exact StrAt.nil _
    | succ k1 =>
      have hlt : k < s.size := by have := HK.out; omega
      have hlt2 : decide (k < s.size) = true := decide_eq_true hlt
      obtain ⟨b, hb⟩ : ∃ b, s.data.toList[k]? = some b := ⟨_, List.getElem?_eq_getElem (by rw [HLEN.out]; exact hlt)⟩
      have hbk : ∀ h, (s[k]'h).toNat = b.toNat := fun h => by
        have h2 : s.data.toList[k]? = some (s.data.toList[k]'(by rw [HLEN.out]; exact hlt)) := List.getElem?_eq_getElem _
        rw [hb] at h2
        injection h2 with h2
        rw [h2]
        rfl
      have HD := Asd.mk (drop_cons hb)
      have hlen1 : now.length + 1 ≤ 140737488355328 := by have := HN.out; omega
      clear hb
      by_cases h58 : b = 58
      · subst h58
        have hbk2 : ∀ h, (s[k]'h).toNat = 58 := hbk
        clear hbk
        have HS := Asd.mk (bstring_calls w.heap.size w.heap.size now wr HP.out.b HP.out.size)
        have HT2 : Asd (parP (s.data.toList.drop (k + 1)) [] (out ++ [now]) = parP s.data.toList [] []) := ⟨by rw [← HT.out, HD.out, parP_colon]⟩
        have HPT := Asd.mk (fun w' h1 h2 h3 => PAt.turn (w' := w') (now' := now) HP.out h1 h2 h3)
        have hob : out.length + 1 ≤ 10001 := by have := HN.out; omega
        go_wp2_with fail
        refine HS.out.mono ?_
        rintro e w2 ⟨rfl, q1, q2, q3⟩
        have HP2 := Asd.mk (HPT.out w2 q1 q2 q3)
        clear q1 q2 q3 HPT HS
        have hstr : (⟨now.toArray⟩ : ByteArray) = bstr now := rfl
        rw [hstr]
        clear hstr
        have HCELL : Asd ((w2.alloc (.cells #[.string (bstr now)] 9)).cell? ⟨w2.heap.size, 0, none⟩ = some (.string (bstr now))) := ⟨cell_of_row _ _ 0 _ _ _ (heap_alloc_new _ _)⟩
        have hown0 := HP2.out.o.alloc (.cells #[.string (bstr now)] 9)
        have HWS := Asd.mk HP2.out.size
        generalize hsv : strsV out = sv at *
        have HSV := Asd.mk hsv
        clear hsv
        generalize hbs : bstr now = bs at *
        have HBS := Asd.mk hbs
        clear hbs
        go_wp2_with (at_builtin; refine wpList_append_own _ rfl _ _ 29 rfl w.heap.size 9 i0 (.string ⟨#[]⟩) 1 16 Try.underlying29 hi hz0 hz1 hz2 rfl (by decide) _ _ _ rfl hown0 ⟨w2.heap.size, 0, none⟩ 1 1 [.string bs] rfl rfl ?c1 ?c2 ?c3 ?c4 ?c5 ?_)
        case c1 =>
          intro j u hj
          match j, hj with
          | 0, hj => simp at hj; subst hj; exact HCELL.out
        case c2 => intro u hu; simp at hu; subst hu; rfl
        case c3 => unfold maxLen; omega
        case c4 => omega
        case c5 => have := HWS.out; simp; omega
        intro v3 w3 hown3 hgrow3 _
        have HP3 : Asd (PAt w w3 now v3 (out ++ [now])) := ⟨by
          refine ⟨builder_grown (builder_below HP2.out.b ((Below.refl _ w2).alloc (Nat.le_refl _) _)) hown0 hgrow3, ?_, ?_⟩
          · rw [List.length_append, strsV_snoc, HSV.out, HBS.out]
            exact hown3
          · exact (HP2.out.bel.alloc HWS.out _).grown hgrow3 (by have := HWS.out; simp; omega) (fun k hk => (hown0.lt k hk).1)⟩
        have HR3 := Asd.mk (reset_calls w.heap.size w.heap.size _ w3 HP3.out.b)
        have HPT3 := Asd.mk (fun w' h1 h2 h3 => PAt.turn (w' := w') (now' := []) HP3.out h1 h2 h3)
        clear hown0 hown3 hgrow3
        go_wp2_with fail
        refine HR3.out.mono ?_
        rintro e w4 ⟨rfl, q1, q2, q3⟩
        have HP4 := Asd.mk (HPT3.out w4 q1 q2 q3)
        clear q1 q2 q3 HPT3 HR3
        go_wp2_with fail
        go_roundg k1
        case measure => omega
        case rel => exact ⟨k + 1, [], out ++ [now], false, by go_num, rfl, ⟨by have := HK.out; omega⟩, ⟨rfl⟩, ⟨by have := HN.out; rw [List.length_append]; simp; omega⟩, HT2, HP4⟩
      · by_cases h92 : b = 92
        · subst h92
          have hbk2 : ∀ h, (s[k]'h).toNat = 92 := hbk
          clear hbk
          by_cases hk1 : k + 1 < s.size
          · obtain ⟨c, hc⟩ : ∃ c, s.data.toList[k + 1]? = some c := ⟨_, List.getElem?_eq_getElem (by rw [HLEN.out]; exact hk1)⟩
            have hck : ∀ h, (s[k + 1]'h).toNat = c.toNat := fun h => by
              have h2 : s.data.toList[k + 1]? = some (s.data.toList[k + 1]'(by rw [HLEN.out]; exact hk1)) := List.getElem?_eq_getElem _
              rw [hc] at h2
              injection h2 with h2
              rw [h2]
              rfl
            have HD2 := Asd.mk (drop_cons hc)
            have hk1b : decide (k + 1 < s.size) = true := decide_eq_true hk1
            have hk1c : (k : Int) + 1 < (s.size : Int) := by omega
            have hk1d : (0 : Int) ≤ (k : Int) + 1 := by omega
            have hk1e : ((k : Int) + 1).toNat = k + 1 := by omega
            clear hc
            by_cases hsp : isSp c = true
            · have HW := Asd.mk (writeByte_calls w.heap.size w.heap.size (Lib.byteCells now) (c.toNat : Int) wr HP.out.b (by rw [Lib.byteCells_length]; exact hlen1) HP.out.size)
              have HT2 : Asd (parP (s.data.toList.drop (k + 1 + 1)) (now ++ [c]) out = parP s.data.toList [] []) := ⟨by rw [← HT.out, HD.out, HD2.out, parP_esc hsp]⟩
              have HPB := Asd.mk (fun w' p hp h1 h2 h3 => PAt.byte (b := c) (w' := w') (p := p) HP.out hp h1 h2 h3)
              have hc256 : c.toNat < 256 := c.toNat_lt
              have hcc : c.toNat = 58 ∨ c.toNat = 92 := by
                unfold isSp at hsp
                simp at hsp
                rcases hsp with h | h <;> rw [h] <;> decide
              clear hsp
              generalize c.toNat = cn at *
              rcases hcc with rfl | rfl
              all_goals
                go_wp2_with fail
                refine HW.out.mono ?_
                rintro e w2 ⟨rfl, q1, q2, q3⟩
                have HP2 := Asd.mk (HPB.out w2 _ rfl q1 q2 q3)
                clear q1 q2 q3
                go_wp2_with fail
                go_roundg (k1 - 1)
                case measure => omega
                case rel => exact ⟨k + 1 + 1, now ++ [c], out, true, by go_num, rfl, ⟨by have := HK.out; omega⟩, ⟨by simp⟩, ⟨by have := HN.out; rw [List.length_append]; simp; omega⟩, HT2, HP2⟩
            · have hsp2 : isSp c = false := by simpa using hsp
              have HT3 : Asd (parP s.data.toList [] [] = none) := ⟨by rw [← HT.out, HD.out, HD2.out, parP_bad hsp2]⟩
              have hn1 : c.toNat ≠ 58 := fun e => by rw [show c = 58 from UInt8.toNat_inj.1 e] at hsp2; exact absurd hsp2 (by decide)
              have hn2 : c.toNat ≠ 92 := fun e => by rw [show c = 92 from UInt8.toNat_inj.1 e] at hsp2; exact absurd hsp2 (by decide)
              have hb1 : (((c.toNat : Nat) : Int) == 92) = false := beq_eq_false_iff_ne.2 (by omega)
              have hb2 : (((c.toNat : Nat) : Int) == 58) = false := beq_eq_false_iff_ne.2 (by omega)
              clear hsp hsp2
              generalize c.toNat = cn at *
              go_wp2_with fail
              try rw [Exit.noGoto_ret]
              refine bodyPost_ret (v := .tuple #[.slice none 0 0, .bool false]) (by simp [results, Try.results14, go_sem]) rfl ?_
              refine ⟨.slice none 0 0, ?_, ?_, HP.out.bel⟩
              · rw [HT3.out]; rfl
              · rw [HT3.out]; exact StrAt.nil _
          · have hk1b : decide (k + 1 < s.size) = false := decide_eq_false hk1
            have hk1c : ¬ ((k : Int) + 1 < (s.size : Int)) := by omega
            have HT3 : Asd (parP s.data.toList [] [] = none) := ⟨by rw [← HT.out, HD.out, List.drop_of_length_le (by rw [HLEN.out]; omega), parP_last]⟩
            go_wp2_with fail
            try rw [Exit.noGoto_ret]
            refine bodyPost_ret (v := .tuple #[.slice none 0 0, .bool false]) (by simp [results, Try.results14, go_sem]) rfl ?_
            refine ⟨.slice none 0 0, ?_, ?_, HP.out.bel⟩
            · rw [HT3.out]; rfl
            · rw [HT3.out]; exact StrAt.nil _
        · have hn1 : b.toNat ≠ 58 := fun e => h58 (UInt8.toNat_inj.1 e)
          have hn2 : b.toNat ≠ 92 := fun e => h92 (UInt8.toNat_inj.1 e)
          have HW := Asd.mk (writeByte_calls w.heap.size w.heap.size (Lib.byteCells now) (b.toNat : Int) wr HP.out.b (by rw [Lib.byteCells_length]; exact hlen1) HP.out.size)
          have HT2 : Asd (parP (s.data.toList.drop (k + 1)) (now ++ [b]) out = parP s.data.toList [] []) := ⟨by rw [← HT.out, HD.out, parP_other h58 h92]⟩
          have HPB := Asd.mk (fun w' p hp h1 h2 h3 => PAt.byte (b := b) (w' := w') (p := p) HP.out hp h1 h2 h3)
          have hb1 : (((b.toNat : Nat) : Int) == 92) = false := beq_eq_false_iff_ne.2 (by omega)
          have hb2 : (((b.toNat : Nat) : Int) == 58) = false := beq_eq_false_iff_ne.2 (by omega)
          generalize b.toNat = bn at *
          go_wp2_with fail
          refine HW.out.mono ?_
          rintro e w2 ⟨rfl, q1, q2, q3⟩
          have HP2 := Asd.mk (HPB.out w2 _ rfl q1 q2 q3)
          clear q1 q2 q3
          go_wp2_with fail
          go_roundg k1
          case measure => omega
          case rel => exact ⟨k + 1, now ++ [b], out, true, by go_num, rfl, ⟨by have := HK.out; omega⟩, ⟨by simp⟩, ⟨by have := HN.out; rw [List.length_append]; simp; omega⟩, HT2, HP2⟩
end Go.Proofs.Ytbpkmgkdbgdmeaa
