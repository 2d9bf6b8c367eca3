import Derived.Test.YtbpkmgkdbgdmeaaL3
/-! A key's parts: plain lists. -/
namespace Go.Proofs.Ytbpkmgkdbgdmeaa
set_option linter.unusedSimpArgs false
set_option linter.unusedVariables false

/-- The way back, as the program goes it: now: the part so far; out: the parts so far. -/
def parP : List UInt8 → List UInt8 → List (List UInt8) → Option (List (List UInt8))
  | [], now, out => if now = [] then some out else none
  | b :: r, now, out =>
    if b = 58 then parP r [] (out ++ [now])
    else if b = 92 then
      match r with
      | [] => none
      | c :: r' => if isSp c then parP r' (now ++ [c]) out else none
    else parP r (now ++ [b]) out
/-- The way back, as the reference goes it, ahead of its last look. -/
def parR : List UInt8 → List UInt8 → List (List UInt8) → Option (List (List UInt8))
  | [], _, out => some out
  | b :: r, p, out =>
    if b = 58 then parR r [] (out ++ [p])
    else if b = 92 then
      match r with
      | [] => none
      | c :: r' => parR r' (p ++ [c]) out
    else parR r (p ++ [b]) out
def keyLL (l : List (List UInt8)) : List UInt8 := l.flatMap fun p => escL p ++ [58]
theorem keyLL_snoc (l : List (List UInt8)) (p : List UInt8) : keyLL (l ++ [p]) = keyLL l ++ (escL p ++ [58]) := by
  unfold keyLL
  rw [List.flatMap_append]
  simp
theorem escL_snoc (p : List UInt8) (b : UInt8) : escL (p ++ [b]) = escL p ++ esc1 b := by
  unfold escL
  rw [List.flatMap_append]
  simp
theorem esc1_sp {b : UInt8} (h : isSp b = true) : esc1 b = [92, b] := by unfold esc1; rw [h]; rfl
theorem esc1_no {b : UInt8} (h : isSp b = false) : esc1 b = [b] := by unfold esc1; rw [h]; rfl
theorem isSp_no {b : UInt8} (h1 : ¬ b = 58) (h2 : ¬ b = 92) : isSp b = false := by simp [isSp, h1, h2]
theorem parP_said (n : Nat) : ∀ l now out res, l.length ≤ n → parP l now out = some res → parR l now out = some res ∧ keyLL res = keyLL out ++ (escL now ++ l) := by
  induction n with
  | zero =>
    intro l now out res hl h
    have : l = [] := List.eq_nil_of_length_eq_zero (by omega)
    subst this
    unfold parP at h
    by_cases hn : now = []
    · rw [if_pos hn] at h
      injection h with h
      subst h hn
      exact ⟨rfl, by simp [escL]⟩
    · rw [if_neg hn] at h; cases h
  | succ n ih =>
    intro l now out res hl h
    cases l with
    | nil => exact (by
        unfold parP at h
        by_cases hn : now = []
        · rw [if_pos hn] at h
          injection h with h
          subst h hn
          exact ⟨rfl, by simp [escL]⟩
        · rw [if_neg hn] at h; cases h)
    | cons b r =>
      rw [List.length_cons] at hl
      unfold parP at h
      by_cases h1 : b = 58
      · rw [if_pos h1] at h
        obtain ⟨i1, i2⟩ := ih _ _ _ _ (by omega) h
        refine ⟨by unfold parR; rw [if_pos h1]; exact i1, ?_⟩
        rw [i2, keyLL_snoc, h1]
        simp [escL]
      · rw [if_neg h1] at h
        by_cases h2 : b = 92
        · rw [if_pos h2] at h
          cases r with
          | nil => cases h
          | cons c r' =>
            rw [List.length_cons] at hl
            simp only at h
            by_cases h3 : isSp c = true
            · rw [if_pos h3] at h
              obtain ⟨i1, i2⟩ := ih _ _ _ _ (by omega) h
              refine ⟨by unfold parR; rw [if_neg h1, if_pos h2]; exact i1, ?_⟩
              rw [i2, escL_snoc, esc1_sp h3, h2]
              simp
            · rw [if_neg h3] at h; cases h
        · rw [if_neg h2] at h
          obtain ⟨i1, i2⟩ := ih _ _ _ _ (by omega) h
          refine ⟨by unfold parR; rw [if_neg h1, if_neg h2]; exact i1, ?_⟩
          rw [i2, escL_snoc, esc1_no (isSp_no h1 h2)]
          simp
theorem parP_part (p : List UInt8) : ∀ rest now out, parP (escL p ++ (58 :: rest)) now out = parP rest [] (out ++ [now ++ p]) := by
  induction p with
  | nil =>
    intro rest now out
    rw [show escL [] = [] from rfl, List.nil_append, List.append_nil]
    conv => lhs; unfold parP
    rw [if_pos rfl]
  | cons b p ih =>
    intro rest now out
    have e : escL (b :: p) = esc1 b ++ escL p := by unfold escL; rw [List.flatMap_cons]
    rw [e]
    by_cases h : isSp b = true
    · rw [esc1_sp h]
      show parP (92 :: b :: (escL p ++ (58 :: rest))) now out = _
      conv => lhs; unfold parP
      rw [if_neg (by decide), if_pos rfl]
      simp only
      rw [if_pos h, ih]
      simp
    · have hb : isSp b = false := by simpa using h
      rw [esc1_no hb]
      show parP (b :: (escL p ++ (58 :: rest))) now out = _
      conv => lhs; unfold parP
      have h1 : ¬ b = 58 := fun e => by subst e; simp [isSp] at hb
      have h2 : ¬ b = 92 := fun e => by subst e; simp [isSp] at hb
      rw [if_neg h1, if_neg h2, ih]
      simp
/-- A key's parts are those that it was made of. -/
theorem parP_key (l : List (List UInt8)) : ∀ out, parP (keyLL l) [] out = some (out ++ l) := by
  induction l with
  | nil => intro out; simp [keyLL, parP]
  | cons p l ih =>
    intro out
    have e : keyLL (p :: l) = escL p ++ (58 :: keyLL l) := by unfold keyLL; rw [List.flatMap_cons]; simp
    rw [e, parP_part, ih]
    simp
theorem keyLL_inj {a b : List (List UInt8)} (h : keyLL a = keyLL b) : a = b := by
  have h1 := parP_key a []
  rw [h, parP_key b []] at h1
  simpa using h1.symm
/-- The reference's way back. -/
def refP (l : List UInt8) : Option (List (List UInt8)) :=
  match parR l [] [] with
  | none => none
  | some res => if keyLL res = l then some res else none
theorem parP_refP (l : List UInt8) : parP l [] [] = refP l := by
  unfold refP
  cases hp : parP l [] [] with
  | some res =>
    obtain ⟨h1, h2⟩ := parP_said l.length l [] [] res (Nat.le_refl _) hp
    rw [h1]
    simp only
    rw [if_pos (by rw [h2]; simp [keyLL, escL])]
  | none =>
    cases hr : parR l [] [] with
    | none => rfl
    | some res =>
      simp only
      by_cases hk : keyLL res = l
      · rw [← hk, parP_key] at hp
        cases hp
      · rw [if_neg hk]

def bstr (l : List UInt8) : ByteArray := ⟨l.toArray⟩
theorem bstr_list (s : ByteArray) : bstr s.data.toList = s := by
  unfold bstr
  rw [Array.toArray_toList]
theorem bstr_inj {a b : List UInt8} (h : bstr a = bstr b) : a = b := by
  unfold bstr at h
  injection h with h
  exact List.toArray_inj h
theorem keyL_bstr (l : List (List UInt8)) : keyL (l.map bstr) = keyLL l := by
  unfold keyL keyLL
  rw [List.flatMap_map]
  rfl
theorem keyL_LL (l : List ByteArray) : keyL l = keyLL (l.map fun s => s.data.toList) := by
  unfold keyL keyLL
  rw [List.flatMap_map]
  rfl
theorem lists_bstr (l : List ByteArray) : (l.map fun s => s.data.toList).map bstr = l := by
  rw [List.map_map]
  exact (List.map_congr_left fun s _ => bstr_list s).trans (List.map_id l)
theorem keyL_inj {a b : List ByteArray} (h : keyL a = keyL b) : a = b := by
  rw [keyL_LL, keyL_LL] at h
  have h1 := congrArg (List.map bstr) (keyLL_inj h)
  rwa [lists_bstr, lists_bstr] at h1
theorem keyL_append (a b : List ByteArray) : keyL (a ++ b) = keyL a ++ keyL b := by unfold keyL; rw [List.flatMap_append]
end Go.Proofs.Ytbpkmgkdbgdmeaa
