import Derived.Test.YtbpkmgkdbgdmeaaN0
/-! HashBack: the walk. -/
namespace Go.Proofs.Ytbpkmgkdbgdmeaa
open Go.RowKit
set_option linter.unusedSimpArgs false
set_option linter.unusedVariables false

set_option maxRecDepth 20000 in
/-- Texts that came in, appended to a row of the call's own. -/
theorem run_app (w : World) (base : Nat) (v : Value) (n : Nat) (xs : List Value) (hown : w.ownsRow base 9 1 v n xs) (A : Option Addr) (c : Nat) (l : List ByteArray) (H : StrAt w (.slice A l.length c) l) (hn : n ≤ 1000000) (hl : l.length ≤ 1000000) (hb : base ≤ w.heap.size) :
    ∃ v' w', (Builtin.append_ #[29, 29] 29 #[v, .slice A l.length c]).run Try.prog w = .ok v' w' ∧ w'.ownsRow base 9 1 v' (n + l.length) (xs ++ l.map .string) ∧ w.grownBy w' v.ownBlock := by
  obtain ⟨i0, hi, hz0, hz1, hz2⟩ := info_parts info9
  obtain ⟨A', c', he, -, hc⟩ := H
  injection he with h1 _ h3
  subst h1 h3
  by_cases h0 : A = none
  · subst h0
    have hl0 : l = [] := by
      cases l with
      | nil => rfl
      | cons x l =>
        obtain ⟨g, off, hg, _⟩ := hc (by simp)
        cases hg
    subst hl0
    refine ⟨v, w, ?_, by simpa using hown, World.grownBy.refl w _⟩
    have ht := Try.underlying29
    rcases hown.2 with ⟨rfl, rfl⟩ | ⟨g, cap, cur, rfl, _, _, hnc, _⟩
    · simp [Builtin.append_, run_underlying ht, sizeOf, typeInfo, hi, Builtin.lenOf, Builtin.firstCells]
    · simp [Builtin.append_, run_underlying ht, sizeOf, typeInfo, hi, Builtin.lenOf, Builtin.firstCells, hnc, storeCells]
  · obtain ⟨ad, rfl⟩ : ∃ ad, A = some ad := by
      cases A with
      | none => exact absurd rfl h0
      | some a => exact ⟨a, rfl⟩
    obtain ⟨v', w', hrun, q1, q2, -⟩ := run_append_own_at (P := Try.prog) w base 29 29 9 i0 (.string ⟨#[]⟩) 1 16 Try.underlying29 hi hz0 hz1 hz2 rfl (by decide) v n xs hown ad l.length c (l.map .string) (by simp) (by
      intro j u hj
      rw [List.getElem?_map] at hj
      obtain ⟨s, hs, rfl⟩ := Option.map_eq_some_iff.1 hj
      have hjl := (List.getElem?_eq_some_iff.1 hs).1
      obtain ⟨g, off, hg, _, hcell⟩ := hc (by omega)
      obtain rfl := Option.some.inj hg
      have hadd : (⟨g, off, none⟩ : Addr).add j = ⟨g, off + j, none⟩ := by rw [Addr.add_mid]
      rw [hadd]
      exact hcell j s hs) (by intro u hu; obtain ⟨s, _, rfl⟩ := List.mem_map.1 hu; rfl) (by unfold maxLen; omega) (by omega) hb
    exact ⟨v', w', hrun, q1, q2⟩
/-- An append whose run is known, in a plain region. -/
theorem wpList_run_append {w : World} {ops : Array Oper} {rest : List Oper} {o : Oper} {a : Act} {Q : Exit → Act → World → Prop} (hgd : o.guard = none) (s x : Operand)
    (ho : o.op = .call { callee := .builtin .append, args := #[s, x], argTypes := #[29, 29] }) (v1 v2 v' : Value) (w' : World) (hs : a.eval s = v1) (hx : a.eval x = v2)
    (hrun : (Builtin.append_ #[29, 29] o.type #[v1, v2]).run Try.prog w = .ok v' w') (h : wpList Try.prog ops Q rest (a.put o.dst v') w') : wpList Try.prog ops Q (o :: rest) a w := by
  refine wpList_plain hgd fun K hK => ?_
  unfold Oper.wp execOp
  simp only [ho, resolve, invoke, builtin, Sem.run_bind, Sem.run_pure, Result.andThen_ok, List.map_toArray, List.map_cons, List.map_nil, hs, hx, hrun]
  exact hK _ _ h
theorem keyL_long (l : List ByteArray) : (keyL l).length ≤ 2 * longL l := by
  induction l with
  | nil => simp [keyL]
  | cons a l ih =>
    have h1 : (keyL (a :: l)).length = (part1 a).length + (keyL l).length := by
      unfold keyL
      rw [List.flatMap_cons, List.length_append]
    have h2 : (part1 a).length ≤ 2 * (1 + a.size) := by
      unfold part1
      have h4 := escL_length_le a.data.toList
      have h5 : a.data.toList.length = a.size := Array.length_toList
      rw [List.length_append]
      simp only [List.length_singleton]
      omega
    have h3 : longL (a :: l) = (1 + a.size) + longL l := by unfold longL; simp
    omega
theorem parts_back (l : List ByteArray) : parP (⟨(keyL l).toArray⟩ : ByteArray).data.toList [] [] = some (l.map fun s => s.data.toList) := by
  show parP (keyL l).toArray.toList [] [] = _
  rw [List.toList_toArray, keyL_LL, parP_key]
  rfl
theorem bstr_append (a b : List UInt8) : bstr a ++ bstr b = bstr (a ++ b) := by
  apply ByteArray.ext
  rw [ByteArray.data_append]
  show a.toArray ++ b.toArray = (a ++ b).toArray
  simp
end Go.Proofs.Ytbpkmgkdbgdmeaa
