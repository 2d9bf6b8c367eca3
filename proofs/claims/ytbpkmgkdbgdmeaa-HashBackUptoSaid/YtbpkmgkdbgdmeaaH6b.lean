import Derived.Test.YtbpkmgkdbgdmeaaH6a
import Derived.Laws.CopyOwn
import Derived.Deep.RegionLaw
import Derived.Lib.Bytealg
import Derived.BigQuiet
import Derived.IntWalk
/-! The replacer of bytes: Replace. -/
namespace Go.Proofs.Ytbpkmgkdbgdmeaa
open Go.RowKit
set_option linter.unusedSimpArgs false
set_option linter.unusedVariables false

def bcells (l : List UInt8) : List Value := l.map fun b => Value.int .u8 (b.toNat : Int)
theorem bcells_length (l : List UInt8) : (bcells l).length = l.length := List.length_map ..
/-- The buffer so far. -/
def bufOf (l : List UInt8) (m : Nat) : List Value := bcells l ++ List.replicate (m - l.length) (.int .u8 0)
theorem bufOf_full (l : List UInt8) : bufOf l l.length = bcells l := by unfold bufOf; simp
theorem conv_buf {w : World} {g : Nat} {l : List UInt8} (h : w.heap[g]? = some (.cells (bcells l).toArray 5 (0, 0))) (c : Nat) :
    (convert 25 9 (.slice (some ⟨g, 0, none⟩) l.length c)).run Try.prog w = .ok (.string ⟨l.toArray⟩) w := by
  have h1 := run_convert_bytes_arg (P := Try.prog) w 25 5 Try.underlying25 Try.underlying5 g 0 l.length c (l.map fun b => (b.toNat : Int)) (List.length_map ..) (fun j hj => by
    rw [show 0 + j = j by omega, cell_of_row _ _ j _ _ _ h, List.getElem?_toArray]
    unfold bcells
    rw [List.getElem?_map, List.getElem?_eq_getElem hj, List.getD_eq_getElem?_getD, List.getElem?_map, List.getElem?_eq_getElem hj]
    simp only [Option.map_some, Option.getD_some]) 9 Try.underlying9
  rw [h1]
  have : strOfNums (l.map fun b => (b.toNat : Int)) = ⟨l.toArray⟩ := by
    have h2 : (l.map fun b => (b.toNat : Int)).map (fun x => UInt8.ofNat x.toNat) = l := by
      rw [List.map_map]
      exact (List.map_congr_left fun b _ => by simp).trans (List.map_id l)
    unfold strOfNums
    rw [h2]
  rw [this]
theorem made_zero (m : Nat) : madeCells (Value.int .u8 0).cells (m * 1) = (bufOf [] m).toArray := by
  apply Array.ext
  · simp [madeCells, bufOf, bcells]
  · intro i h1 h2
    simp [madeCells, bufOf, bcells, Value.cells, Nat.mod_one]
theorem bufOf_snoc {l : List UInt8} {m : Nat} (h : l.length < m) (b : UInt8) : (bufOf l m).set l.length (.int .u8 (b.toNat : Int)) = bufOf (l ++ [b]) m := by
  unfold bufOf
  rw [List.set_append_right _ _ (by rw [bcells_length]; exact Nat.le_refl _), bcells_length, Nat.sub_self]
  obtain ⟨n, hn⟩ : ∃ n, m - l.length = n + 1 := ⟨m - l.length - 1, by omega⟩
  rw [hn, List.replicate_succ, List.set_cons_zero]
  unfold bcells
  rw [List.map_append, List.append_assoc, List.length_append, List.length_singleton, show m - (l.length + 1) = n by omega]
  rfl
theorem bufOf_two (l : List UInt8) (m : Nat) (b : UInt8) (h : l.length + 2 ≤ m) : (bufOf l m).take l.length ++ [.int .u8 92, .int .u8 (b.toNat : Int)] ++ (bufOf l m).drop (l.length + 2) = bufOf (l ++ [92, b]) m := by
  obtain ⟨n, hn⟩ : ∃ n, m - l.length = n + 2 := ⟨m - l.length - 2, by omega⟩
  have hl := bcells_length l
  unfold bufOf
  rw [hn, List.take_append_of_le_length (by omega), List.take_of_length_le (by omega), List.drop_append, List.drop_eq_nil_of_le (by omega), hl, show l.length + 2 - l.length = 2 by omega, List.drop_replicate, List.nil_append, List.length_append, show m - (l.length + [92, b].length) = n by simp; omega, show n + 2 - 2 = n by omega]
  unfold bcells
  rw [List.map_append]
  rfl
theorem bufOf_length {l : List UInt8} {m : Nat} (h : l.length ≤ m) : (bufOf l m).length = m := by
  unfold bufOf
  rw [List.length_append, bcells_length, List.length_replicate]
  omega
theorem BRep.at {w : World} {sb : Nat} (H : BRep w sb) (b : UInt8) : (isSp b = false ∧ w.cell? ⟨sb, b.toNat, none⟩ = some (.slice none 0 0)) ∨
    (isSp b = true ∧ ∃ h c, w.cell? ⟨sb, b.toNat, none⟩ = some (.slice (some ⟨h, 0, none⟩) 2 c) ∧ w.cell? ⟨h, 0, none⟩ = some (.int .u8 92) ∧ w.cell? ⟨h, 1, none⟩ = some (.int .u8 (b.toNat : Int))) := by
  by_cases h1 : b = 58
  · subst h1
    obtain ⟨h, c, a, r⟩ := H.r58
    exact .inr ⟨rfl, h, c, a, r.2 0 (by decide), r.2 1 (by decide)⟩
  · by_cases h2 : b = 92
    · subst h2
      obtain ⟨h, c, a, r⟩ := H.r92
      exact .inr ⟨rfl, h, c, a, r.2 0 (by decide), r.2 1 (by decide)⟩
    · refine .inl ⟨by simp [isSp, h1, h2], H.nil _ (UInt8.toNat_lt b) (fun e => h1 (UInt8.toNat_inj.1 e)) (fun e => h2 (UInt8.toNat_inj.1 e))⟩

/-- strings.Count of one byte. -/
theorem count_calls (w : World) (s x : ByteArray) (c : UInt8) (hx : x.size = 1) (hc : ∀ h, (x[0]'h).toNat = c.toNat) (n : Nat) (hn : n = s.data.toList.count c) :
    Calls Try.prog 93 #[.string s, .string x] w fun e w' => e = .returned (.int .i64 (n : Int)) ∧ w = w' := by
  have h1 : (((1 : Nat) : Int) == 0) = false := rfl
  have HR : Asd ((callFunc 95 #[.string s, .int .u8 (c.toNat : Int)]).run Try.prog w = .ok (.value (.int .i64 (n : Int))) w) := ⟨by
    rw [run_callFunc_extern Try.func95 (by kernel_rfl) (by kernel_rfl) (by kernel_rfl) (e := Extern.BytealgCount.count) (by kernel_rfl), Lib.run_countString]
    rw [hn]
    simp [Result.andThen, Lib.countByte]⟩
  clear hn
  go_enter Try.func93, Try.ntmps93
  have hr := HR.out
  go_wp2
  go_ret
  exact ⟨rfl, rfl⟩
end Go.Proofs.Ytbpkmgkdbgdmeaa
