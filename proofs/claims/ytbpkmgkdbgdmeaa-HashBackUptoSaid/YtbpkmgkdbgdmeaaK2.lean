import Derived.Test.YtbpkmgkdbgdmeaaK1
/-! Texts in a slice; Key. -/
namespace Go.Proofs.Ytbpkmgkdbgdmeaa
open Go.RowKit
set_option linter.unusedSimpArgs false
set_option linter.unusedVariables false

/-- A slice that reads as texts. -/
def StrAt (w : World) (v : Value) (l : List ByteArray) : Prop :=
  ∃ A c, v = .slice A l.length c ∧ l.length ≤ 9223372036854775807 ∧ (0 < l.length → ∃ g off, A = some ⟨g, off, none⟩ ∧ g < w.heap.size ∧ ∀ (j : Nat) (s : ByteArray), l[j]? = some s → w.cell? ⟨g, off + j, none⟩ = some (.string s))
theorem StrAt.below {B : Nat} {w w' : World} {v : Value} {l : List ByteArray} (h : StrAt w v l) (hb : Below B w w') (hB : w.heap.size ≤ B) : StrAt w' v l := by
  obtain ⟨A, c, h1, h2, h3⟩ := h
  refine ⟨A, c, h1, h2, fun hl => ?_⟩
  obtain ⟨g, off, h4, h5, h6⟩ := h3 hl
  exact ⟨g, off, h4, Nat.lt_of_lt_of_le h5 hb.size, fun j s hj => (hb.cell (p := ⟨g, off + j, none⟩) (Nat.lt_of_lt_of_le h5 hB)).trans (h6 j s hj)⟩
theorem StrAt.own {w : World} {base : Nat} {v : Value} {n : Nat} {l : List ByteArray} (h : w.ownsRow base 9 1 v n (l.map Value.string)) : StrAt w v l := by
  have hn : l.length = n := by have := h.1; simpa using this
  subst hn
  rcases h.2 with ⟨h1, h2⟩ | ⟨g, cap, cur, h1, h2, h3, h4, h5, _⟩
  · exact ⟨none, 0, by rw [h2]; exact h1, by omega, fun hl => by omega⟩
  · subst h1
    refine ⟨_, cap, rfl, by simp only [maxLen] at h5; omega, fun hl => ⟨g, 0, rfl, (Array.getElem?_eq_some_iff.1 h3).1, fun j s hj => ?_⟩⟩
    have hjl := (List.getElem?_eq_some_iff.1 hj).1
    rw [Nat.zero_add, h.cellAt j (by omega), List.getElem?_map, hj]
    rfl

theorem builder_below {B b : Nat} {bs : List Value} {w w' : World} (h : Lib.IsBuilderF 40 5 B b bs w) (hb : Below w.heap.size w w') : Lib.IsBuilderF 40 5 B b bs w' := by
  have hat : ∀ p, Lib.BuilderAtF 40 5 B b p bs w → Lib.BuilderAtF 40 5 B b p bs w' := by
    rintro p ⟨hB, v, hbk, hown, hne⟩
    have hl := (Array.getElem?_eq_some_iff.1 hbk).1
    refine ⟨hB, v, (hb.block b hl).trans hbk, hown.kept (row := none) ⟨hb.os, hb.tape, hb.output, hb.size, fun k hk _ => hb.block k hk⟩ ?_, hne⟩
    cases v.ownBlock with
    | none => exact .inl rfl
    | some g => exact .inr (by simp)
  exact h.elim (fun h => .inl (hat _ h)) (fun h => .inr (hat _ h))

/-- A part of a key. -/
def part1 (p : ByteArray) : List UInt8 := escL p.data.toList ++ [58]
def keyL (l : List ByteArray) : List UInt8 := l.flatMap part1
theorem keyL_take {l : List ByteArray} {k : Nat} {p : ByteArray} (h : l[k]? = some p) : keyL (l.take (k + 1)) = keyL (l.take k) ++ part1 p := by
  unfold keyL
  rw [List.take_add_one, h, List.flatMap_append]
  simp
theorem escL_length_le (l : List UInt8) : (escL l).length ≤ 2 * l.length := by
  have h : nSp l ≤ l.length := List.countP_le_length
  rw [escL_length]
  omega
theorem keyL_length_le (l : List ByteArray) (n : Nat) (h : ∀ s ∈ l, s.size ≤ n) : (keyL l).length ≤ l.length * (2 * n + 1) := by
  induction l with
  | nil => simp [keyL]
  | cons a l ih =>
    have h1 := h a (by simp)
    have h2 := ih fun s hs => h s (by simp [hs])
    have h3 : (part1 a).length ≤ 2 * n + 1 := by
      unfold part1
      have h4 := escL_length_le a.data.toList
      have h5 : a.data.toList.length = a.size := Array.length_toList
      rw [List.length_append]
      simp only [List.length_singleton]
      omega
    have h4 : (keyL (a :: l)).length = (part1 a).length + (keyL l).length := by
      unfold keyL
      rw [List.flatMap_cons, List.length_append]
    rw [h4, List.length_cons, Nat.add_mul]
    omega
theorem str_add (l : List UInt8) : (⟨l.toArray⟩ : ByteArray) ++ ⟨#[58]⟩ = ⟨(l ++ [58]).toArray⟩ := by
  apply ByteArray.ext
  simp [ByteArray.data_append]
end Go.Proofs.Ytbpkmgkdbgdmeaa
