/-! A text's sum: plain numbers. -/
namespace Go.Proofs.Ytbpkmgkdbgdmeaa

def fnv (h c : Nat) : Nat := ((h ^^^ c) * 1099511628211) % 18446744073709551616
def hsumL (l : List UInt8) : Nat := l.foldl (fun h c => fnv h c.toNat) 14695981039346656037
theorem hsumL_snoc (l : List UInt8) (c : UInt8) : hsumL (l ++ [c]) = fnv (hsumL l) c.toNat := by
  unfold hsumL
  rw [List.foldl_append, List.foldl_cons, List.foldl_nil]
theorem fnv_lt (h c : Nat) : fnv h c < 18446744073709551616 := Nat.mod_lt _ (by decide)
theorem foldl_lt (l : List UInt8) : ∀ h, h < 18446744073709551616 → l.foldl (fun h c => fnv h c.toNat) h < 18446744073709551616 := by
  induction l with
  | nil => exact fun h hh => hh
  | cons a l ih => exact fun h _ => ih _ (fnv_lt h a.toNat)
theorem hsumL_lt (l : List UInt8) : hsumL l < 18446744073709551616 := foldl_lt l _ (by decide)
def hsum (s : ByteArray) : Nat := hsumL s.data.toList
theorem odd_inj {a b : Nat} (ha : a < 18446744073709551616) (hb : b < 18446744073709551616) (h : a * 1099511628211 % 18446744073709551616 = b * 1099511628211 % 18446744073709551616) : a = b := by
  have h1 : (a * 1099511628211 % 18446744073709551616) * 14886173955864302971 % 18446744073709551616 = (b * 1099511628211 % 18446744073709551616) * 14886173955864302971 % 18446744073709551616 := by rw [h]
  have h2 : ∀ x, (x * 1099511628211 % 18446744073709551616) * 14886173955864302971 % 18446744073709551616 = x % 18446744073709551616 := by
    intro x
    rw [Nat.mod_mul_mod, Nat.mul_assoc, Nat.mul_mod, show 1099511628211 * 14886173955864302971 % 18446744073709551616 = 1 from by decide, Nat.mul_one, Nat.mod_mod]
  rw [h2, h2, Nat.mod_eq_of_lt ha, Nat.mod_eq_of_lt hb] at h1
  exact h1
theorem xor_lt {a b : Nat} (ha : a < 18446744073709551616) (hb : b < 18446744073709551616) : a ^^^ b < 18446744073709551616 := Nat.xor_lt_two_pow (n := 64) ha hb
theorem fnv_inj {a b c : Nat} (ha : a < 18446744073709551616) (hb : b < 18446744073709551616) (hc : c < 18446744073709551616) (h : fnv a c = fnv b c) : a = b := by
  have h1 := odd_inj (xor_lt ha hc) (xor_lt hb hc) h
  have h2 := congrArg (· ^^^ c) h1
  simpa [Nat.xor_assoc] using h2
theorem fnv_inj2 {a c d : Nat} (ha : a < 18446744073709551616) (hc : c < 18446744073709551616) (hd : d < 18446744073709551616) (h : fnv a c = fnv a d) : c = d := by
  have h1 := odd_inj (xor_lt ha hc) (xor_lt ha hd) h
  have h2 := congrArg (a ^^^ ·) h1
  simpa [← Nat.xor_assoc] using h2
theorem foldl_inj (l : List UInt8) : ∀ a b, a < 18446744073709551616 → b < 18446744073709551616 → l.foldl (fun h c => fnv h c.toNat) a = l.foldl (fun h c => fnv h c.toNat) b → a = b := by
  induction l with
  | nil => exact fun a b _ _ h => h
  | cons c l ih =>
    intro a b ha hb h
    have hc := c.toNat_lt
    exact fnv_inj ha hb (by omega) (ih _ _ (fnv_lt _ _) (fnv_lt _ _) h)
/-- With one byte another one the sum is another one. -/
theorem hsumL_set {l : List UInt8} {k : Nat} {b c : UInt8} (hb : l[k]? = some b) (hne : b ≠ c) : hsumL (l.set k c) ≠ hsumL l := by
  have hk := (List.getElem?_eq_some_iff.1 hb).1
  have e1 : l = l.take k ++ b :: l.drop (k + 1) := by
    have h2 : l.drop k = b :: l.drop (k + 1) := by
      rw [List.drop_eq_getElem_cons hk]
      rw [List.getElem?_eq_getElem hk] at hb
      injection hb with hb
      rw [hb]
    rw [← h2, List.take_append_drop]
  have e2 : l.set k c = l.take k ++ c :: l.drop (k + 1) := by
    rw [List.set_eq_take_append_cons_drop, if_pos hk]
  intro h
  rw [e2] at h
  have e3 : hsumL l = hsumL (l.take k ++ b :: l.drop (k + 1)) := congrArg hsumL e1
  rw [e3] at h
  unfold hsumL at h
  rw [List.foldl_append, List.foldl_append, List.foldl_cons, List.foldl_cons] at h
  have h1 := foldl_inj _ _ _ (fnv_lt _ _) (fnv_lt _ _) h
  have hc := c.toNat_lt
  have hb2 := b.toNat_lt
  have h2 := fnv_inj2 (foldl_lt _ _ (by decide)) (by omega) (by omega) h1
  exact hne (UInt8.toNat_inj.1 h2.symm)
end Go.Proofs.Ytbpkmgkdbgdmeaa
