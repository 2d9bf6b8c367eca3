import Derived.Test.YtbpkmgkdbgdmeaaH1
/-! The replacer: once. -/
namespace Go.Proofs.Ytbpkmgkdbgdmeaa
open Go.RowKit
set_option linter.unusedSimpArgs false
set_option linter.unusedVariables false

theorem buildOnce_calls (w : World) (rb g c : Nat) (x0 x1 x2 x3 : Value)
    (hr : w.heap[rb]? = some (.cells #[x0, x1, x2, x3, .slice (some ⟨g, 0, none⟩) 4 c] 66 (0, 0)))
    (h0 : w.cell? ⟨g, 0, none⟩ = some (.string b1)) (h1 : w.cell? ⟨g, 1, none⟩ = some (.string b2)) (h2 : w.cell? ⟨g, 2, none⟩ = some (.string b3)) (h3 : w.cell? ⟨g, 3, none⟩ = some (.string b4)) :
    Calls Try.prog 29 #[.pointer (some ⟨rb, 0, none⟩)] w fun e w' => e = .returned (.tuple #[]) ∧ ∃ sb w1, w' = (w1.setCell ⟨rb, 3, none⟩ (.iface 86 (.pointer (some ⟨sb, 0, none⟩)))).setCell ⟨rb, 4, none⟩ (.slice none 0 0) ∧ BRep w1 sb ∧ Below w.heap.size w w1 := by
  have hb := Asd.mk (build_calls w rb g c x0 x1 x2 x3 hr h0 h1 h2 h3)
  have HR := Asd.mk hr
  clear hr h0 h1 h2 h3
  go_enter Try.func29, Try.ntmps29
  go_wp2_with fail
  refine hb.out.mono ?_
  rintro e w1 ⟨sb, rfl, hB, hw⟩
  have hr1 : w1.heap[rb]? = some (.cells #[x0, x1, x2, x3, .slice (some ⟨g, 0, none⟩) 4 c] 66 (0, 0)) := (hw.block rb (Array.getElem?_eq_some_iff.1 HR.out).1).trans HR.out
  have r3 : w1.cell? ⟨rb, 3, none⟩ = some x3 := cell_of_row _ _ 3 _ _ _ hr1
  have r4 : w1.cell? ⟨rb, 4, none⟩ = some (.slice (some ⟨g, 0, none⟩) 4 c) := cell_of_row _ _ 4 _ _ _ hr1
  have rf : ∀ i, w1.frozen? ⟨rb, i, none⟩ = false := fun i => by unfold World.frozen?; rw [hr1]; simp
  have HB := Asd.mk hB
  have HW := Asd.mk hw
  clear hr1 hB hw
  go_wp2_with fail
  go_end0
  exact ⟨rfl, sb, w1, rfl, HB.out, HW.out⟩
end Go.Proofs.Ytbpkmgkdbgdmeaa
