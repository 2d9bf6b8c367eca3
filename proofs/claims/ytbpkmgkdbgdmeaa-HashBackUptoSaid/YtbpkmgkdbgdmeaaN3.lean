import Derived.Test.YtbpkmgkdbgdmeaaRows
import Derived.Test.YtbpkmgkdbgdmeaaN2
import Derived.ProofKit
import Derived.SizedLaws
import Derived.SliceStrings
import Derived.Deep.Slices
import Derived.Deep.Strs
/-! A slice of texts that came in; what the bulk bounds. -/
namespace Go.Proofs.Ytbpkmgkdbgdmeaa
open Go.RowKit Go.Deep Go.ChangeShapes Go.WideShapes
set_option linter.unusedSimpArgs false
set_option linter.unusedVariables false

theorem cellsS : Try.prog.cellsOf 9 = 1 := by kernel_rfl
theorem bulk_part {H : Type} {d : DataW H} {l : List (DataW H)} (h : d ∈ l) : Rows.uptoBulk d ≤ Rows.uptoBulkAll l := by
  induction l with
  | nil => cases h
  | cons x r ih =>
    simp only [Rows.uptoBulkAll]
    rcases List.mem_cons.1 h with rfl | h
    · omega
    · have := ih h; omega
theorem bulk_strs {H : Type} (l : List ByteArray) : Rows.uptoBulkAll (l.map fun s => (DataW.lit (H := H) (.string s.data.toList))) = longL l := by
  induction l with
  | nil => rfl
  | cons s l ih =>
    simp only [List.map_cons, Rows.uptoBulkAll, ih, Rows.uptoBulk]
    unfold longL
    simp only [List.map_cons, List.sum_cons]
    rw [Array.length_toList]
    have : s.data.size = s.size := rfl
    omega
set_option maxRecDepth 20000 in
theorem open_txts {H : Type} {enc : TypeId × Value → H} {W : World} {v : Value} {d : DataW H} {p : List MemPlace} {base : Nat}
    (hok : Value.okWide Try.prog W .any base 29 v) (h : DataW.Trod enc Try.prog W 0 (fun _ => true) true 29 v d p) : ∃ l, StrAt W v l ∧ longL l ≤ Rows.uptoBulk d := by
  obtain ⟨A, len, cap, rfl⟩ := okWide_slice Try.underlying29 hok
  obtain ⟨fuel, hf⟩ := h
  rcases open_strings Try.underlying29 Try.underlying9 cellsS hf with ⟨hcs, hx⟩ | ⟨a, len', cap', ss, hcs, hb, hl, hm, hz, hx, hcell, hws⟩
  · simp [Value.cells] at hcs
    obtain ⟨rfl, rfl, rfl⟩ := hcs
    exact ⟨[], StrAt.nil _, Nat.zero_le _⟩
  · simp [Value.cells] at hcs
    obtain ⟨rfl, rfl, rfl⟩ := hcs
    simp only [if_true] at hz
    simp only [Prod.mk.injEq] at hx
    obtain ⟨rfl, rfl⟩ := hx
    have hlen : (ss.take len).length = len := by rw [List.length_take]; omega
    refine ⟨ss.take len, ⟨some a, cap, by rw [hlen], by rw [hlen]; unfold maxLen at hm; omega, fun hpos => ?_⟩, ?_⟩
    · rw [hlen] at hpos
      have h0 := hcell 0 (by omega)
      have ha : a.add 0 = a := by simp [Addr.add]
      rw [ha] at h0
      have hsp : a.spot = none := by
        unfold World.cell? at h0
        split at h0
        · split at h0
          · simp at h0
          · rename_i hns; simpa using hns
        · simp at h0
      obtain ⟨b, off, spot⟩ := a
      simp only at hsp
      subst hsp
      refine ⟨b, off, rfl, World.block_lt_of_cell? _ _ h0, fun j s hj => ?_⟩
      have hjl := (List.getElem?_eq_some_iff.1 hj).1
      rw [hlen] at hjl
      have h1 := hcell j (by omega)
      rw [Addr.add_mid] at h1
      rw [h1, List.getD_eq_getElem?_getD]
      rw [List.getElem?_take, if_pos hjl] at hj
      rw [hj]
      rfl
    · simp only [Rows.uptoBulk]
      have h1 := bulk_strs (H := H) (ss.take len)
      have h2 : strs (H := H) (ss.take len) = (ss.take len).map fun s => (DataW.lit (H := H) (.string s.data.toList)) := rfl
      rw [h2, h1]
      omega
end Go.Proofs.Ytbpkmgkdbgdmeaa
