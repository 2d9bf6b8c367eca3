import Derived.Test.YtbpkmgkdbgdmeaaK2
/-! Key. -/
namespace Go.Proofs.Ytbpkmgkdbgdmeaa
open Go.RowKit
set_option linter.unusedSimpArgs false
set_option linter.unusedVariables false

/-- What is in the round's world behind the four texts. -/
theorem four_cells (w : World) : (w.alloc (.cells #[.string b1, .string b2, .string b3, .string b4] 9)).cell? ⟨w.heap.size, 0, none⟩ = some (.string b1) ∧ (w.alloc (.cells #[.string b1, .string b2, .string b3, .string b4] 9)).cell? ⟨w.heap.size, 1, none⟩ = some (.string b2) ∧
    (w.alloc (.cells #[.string b1, .string b2, .string b3, .string b4] 9)).cell? ⟨w.heap.size, 2, none⟩ = some (.string b3) ∧ (w.alloc (.cells #[.string b1, .string b2, .string b3, .string b4] 9)).cell? ⟨w.heap.size, 3, none⟩ = some (.string b4) :=
  ⟨cell_of_row _ _ 0 _ _ _ (heap_alloc_new _ _), cell_of_row _ _ 1 _ _ _ (heap_alloc_new _ _), cell_of_row _ _ 2 _ _ _ (heap_alloc_new _ _), cell_of_row _ _ 3 _ _ _ (heap_alloc_new _ _)⟩
set_option maxRecDepth 20000 in
set_option maxHeartbeats 4000000 in
theorem key_calls (w : World) (v : Value) (l : List ByteArray) (H : StrAt w v l) (hs : ∀ s ∈ l, s.size ≤ 2000) (hl : l.length ≤ 2000) :
    Calls Try.prog 16 #[v] w fun e w' => e = .returned (.string ⟨(keyL l).toArray⟩) ∧ Below w.heap.size w w' := by
  obtain ⟨A, c, rfl, -, hc⟩ := H
  have HC := Asd.mk hc
  have HS := Asd.mk hs
  clear hc hs
  have HB0 : Asd (Lib.IsBuilderF 40 5 w.heap.size w.heap.size (Lib.byteCells (keyL [])) (w.alloc (.cells #[.pointer none, .slice none 0 0] 40))) := ⟨builder_new _ _ _ (Nat.le_refl _) (heap_alloc_new _ _)⟩
  have HW0 := Asd.mk ((Below.refl _ w).alloc (Nat.le_refl _) (.cells #[.pointer none, .slice none 0 0] 40))
  have hl0 : (0 : Int) ≤ l.length := by omega
  go_enter Try.func16, Try.ntmps16
  go_wp2_with fail
  generalize (w.alloc (.cells #[.pointer none, .slice none 0 0] 40)) = w1 at *
  go_loopg [8] l.length (fun kq v8 wr => ∃ k : Nat, v8 = .int .i64 (k : Int) ∧ Asd (kq + k = l.length) ∧ Asd (Lib.IsBuilderF 40 5 w.heap.size w.heap.size (Lib.byteCells (keyL (l.take k))) wr) ∧ Asd (Below w.heap.size w wr))
  case atStart => exact ⟨0, rfl, ⟨by omega⟩, HB0, HW0⟩
  case round =>
    obtain ⟨k, rfl, HK, HB, HW⟩ := hrel
    have hk := HK.out
    clear HB0 HW0
    cases gk with
    | zero =>
      have hge2 : (decide (k < l.length)) = false := by rw [decide_eq_false_iff_not]; omega
      obtain rfl : k = l.length := by omega
      clear hk
      have HB2 := HB.out
      rw [List.take_length] at HB2
      have HB3 := Asd.mk HB2
      clear HB2
      go_wp2_with fail
      refine (bstring_calls w.heap.size w.heap.size (keyL l) _ HB3.out HW.out.size).mono ?_
      rintro e w2 ⟨rfl, -, hb2, -⟩
      have HW2 := Asd.mk (HW.out.trans hb2)
      clear hb2
      go_wp2_with fail
      go_ret
      exact ⟨rfl, HW2.out⟩
    | succ k1 =>
      have hlt : k < l.length := by omega
      have hlt2 : decide (k < l.length) = true := decide_eq_true hlt
      obtain ⟨g, off, rfl, hg, hcell⟩ := HC.out (by omega)
      obtain ⟨p, hp⟩ : ∃ p, l[k]? = some p := ⟨_, List.getElem?_eq_getElem hlt⟩
      have hps : p.size ≤ 2000 := HS.out p (List.mem_of_getElem? hp)
      have hcw := (HW.out.cell (p := ⟨g, off + k, none⟩) hg).trans (hcell k p hp)
      have HT := Asd.mk (keyL_take hp)
      have HLEN : Asd ((keyL (l.take k)).length ≤ 2000 * 4001) := ⟨by
        have h1 := keyL_length_le (l.take k) 2000 (fun s hs => HS.out s (List.mem_of_mem_take hs))
        have h2 := List.length_take_le k l
        have h3 : (l.take k).length * (2 * 2000 + 1) ≤ 2000 * 4001 := Nat.mul_le_mul (by omega) (by omega)
        omega⟩
      obtain ⟨f0, f1, f2, f3⟩ := four_cells wr
      have HN := Asd.mk (new_calls _ wr.heap.size 4 f0 f1 f2 f3)
      have HBA := Asd.mk (builder_below HB.out ((Below.refl _ wr).alloc (Nat.le_refl _) (.cells #[.string b1, .string b2, .string b3, .string b4] 9)))
      have HWA := Asd.mk (HW.out.alloc HW.out.size (.cells #[.string b1, .string b2, .string b3, .string b4] 9))
      clear f0 f1 f2 f3 hcell hp hk
      go_wp2_with fail
      have hdef : (wr.alloc (.cells #[.string ⟨#[92]⟩, .string ⟨#[92, 92]⟩, .string ⟨#[58]⟩, .string ⟨#[92, 58]⟩] 9)) = (wr.alloc (.cells #[.string b1, .string b2, .string b3, .string b4] 9)) := rfl
      rw [hdef]
      clear hdef
      generalize (wr.alloc (.cells #[.string b1, .string b2, .string b3, .string b4] 9)) = w2 at *
      refine HN.out.mono ?_
      rintro e w3 ⟨rb, gg, cc, x2, x3, rfl, h1, h2, hb3, hr, f0, f1, f2, f3⟩
      have HR := Asd.mk (replace_calls w3 w2.heap.size rb gg cc x2 x3 p h1 h2 (by omega) hr f0 f1 f2 f3)
      have HW3 := Asd.mk (HWA.out.trans (hb3.mono HWA.out.size))
      have HB23 := Asd.mk hb3
      clear h1 h2 hb3 hr f0 f1 f2 f3
      go_wp2_with fail
      refine HR.out.mono ?_
      rintro e w4 ⟨rfl, hb4⟩
      have HW4 := Asd.mk (HW3.out.trans (hb4.mono HWA.out.size))
      have HB4 := Asd.mk (builder_below HBA.out (HB23.out.trans hb4))
      have hel := escL_length_le p.data.toList
      rw [show p.data.toList.length = p.size from Array.length_toList] at hel
      have hel2 : (part1 p).length = (escL p.data.toList).length + 1 := by unfold part1; simp
      have HP1 : Asd ((part1 p).length ≤ 4001) := ⟨by omega⟩
      clear hel2
      have hsum : ((⟨(escL p.data.toList).toArray⟩ : ByteArray) ++ ⟨#[58]⟩) = ⟨(part1 p).toArray⟩ := str_add _
      clear hb4
      go_wp2_with fail
      have hsz : (⟨(part1 p).toArray⟩ : ByteArray).size ≤ 4001 := HP1.out
      refine (writeString_calls w.heap.size w.heap.size _ ⟨(part1 p).toArray⟩ w4 HB4.out (by have := HLEN.out; rw [Lib.byteCells_length]; omega) HW4.out.size).mono ?_
      rintro e w5 ⟨rfl, hb5, hw5, -⟩
      have HB5 : Asd (Lib.IsBuilderF 40 5 w.heap.size w.heap.size (Lib.byteCells (keyL (l.take (k + 1)))) w5) := ⟨by
        have e5 : Lib.byteCells (keyL (l.take k)) ++ Lib.strCells ⟨(part1 p).toArray⟩ = Lib.byteCells (keyL (l.take (k + 1))) := by
          rw [HT.out]
          unfold Lib.byteCells Lib.strCells
          rw [List.map_append]
        rw [← e5]
        exact .inr hb5⟩
      have HW5 := Asd.mk (HW4.out.trans hw5)
      clear hb5 hw5 hsz hsum
      go_wp2_with fail
      go_roundg k1
      case measure => omega
      case rel => exact ⟨k + 1, by go_num, ⟨by have := HK.out; omega⟩, HB5, HW5⟩
end Go.Proofs.Ytbpkmgkdbgdmeaa
