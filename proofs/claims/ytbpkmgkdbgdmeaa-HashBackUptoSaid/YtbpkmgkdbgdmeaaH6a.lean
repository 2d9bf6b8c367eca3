import Derived.Test.YtbpkmgkdbgdmeaaH5
/-! What the replacer makes of a text: plain lists. -/
namespace Go.Proofs.Ytbpkmgkdbgdmeaa
set_option linter.unusedSimpArgs false
set_option linter.unusedVariables false

def isSp (b : UInt8) : Bool := b == 58 || b == 92
def esc1 (b : UInt8) : List UInt8 := if isSp b then [92, b] else [b]
def escL (l : List UInt8) : List UInt8 := l.flatMap esc1
/-- How many bytes are replaced. -/
def nSp (l : List UInt8) : Nat := l.countP isSp
theorem escL_length (l : List UInt8) : (escL l).length = l.length + nSp l := by
  induction l with
  | nil => rfl
  | cons b l ih =>
    unfold escL nSp at *
    rw [List.flatMap_cons, List.length_append, List.countP_cons, ih]
    unfold esc1
    cases h : isSp b <;> simp [h] <;> omega
theorem escL_id {l : List UInt8} (h : nSp l = 0) : escL l = l := by
  induction l with
  | nil => rfl
  | cons b l ih =>
    unfold nSp at h
    rw [List.countP_cons] at h
    cases hb : isSp b
    · rw [hb] at h
      have h2 := ih (by unfold nSp; simpa using h)
      unfold escL at h2 ⊢
      have h1 : esc1 b = [b] := by unfold esc1; rw [hb]; rfl
      rw [List.flatMap_cons, h1, h2]
      rfl
    · rw [hb] at h
      simp at h
theorem escL_take {l : List UInt8} {k : Nat} {b : UInt8} (h : l[k]? = some b) : escL (l.take (k + 1)) = escL (l.take k) ++ esc1 b := by
  unfold escL
  rw [List.take_add_one, h, List.flatMap_append]
  simp
theorem nSp_take {l : List UInt8} {k : Nat} {b : UInt8} (h : l[k]? = some b) : nSp (l.take (k + 1)) = nSp (l.take k) + if isSp b then 1 else 0 := by
  unfold nSp
  rw [List.take_add_one, h, List.countP_append]
  simp [List.countP_cons]
theorem nSp_counts (l : List UInt8) : nSp l = l.count 58 + l.count 92 := by
  induction l with
  | nil => rfl
  | cons b l ih =>
    unfold nSp at *
    rw [List.countP_cons, List.count_cons, List.count_cons, ih]
    unfold isSp
    by_cases h1 : b = 58
    · subst h1; simp; omega
    · by_cases h2 : b = 92
      · subst h2; simp; omega
      · simp [h1, h2]
end Go.Proofs.Ytbpkmgkdbgdmeaa
