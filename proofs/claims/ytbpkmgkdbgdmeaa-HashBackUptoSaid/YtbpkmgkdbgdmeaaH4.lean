import Derived.Test.YtbpkmgkdbgdmeaaH3
/-! The replacer: Do. -/
namespace Go.Proofs.Ytbpkmgkdbgdmeaa
open Go.RowKit
set_option linter.unusedSimpArgs false
set_option linter.unusedVariables false

theorem do_calls (w : World) (lo rb g c : Nat) (x2 x3 : Value) (hlo : lo ≤ rb) (hgr : g ≠ rb)
    (hr : w.heap[rb]? = some (.cells #[.int .u32 0, .int .i32 0, x2, x3, .slice (some ⟨g, 0, none⟩) 4 c] 66 (0, 0)))
    (h0 : w.cell? ⟨g, 0, none⟩ = some (.string b1)) (h1 : w.cell? ⟨g, 1, none⟩ = some (.string b2)) (h2 : w.cell? ⟨g, 2, none⟩ = some (.string b3)) (h3 : w.cell? ⟨g, 3, none⟩ = some (.string b4)) :
    Calls Try.prog 28 #[.pointer (some ⟨rb, 0, none⟩), .func (.func 29) #[.pointer (some ⟨rb, 0, none⟩)] #[]] w fun e w' => e = .returned (.tuple #[]) ∧
      ∃ sb, BRep w' sb ∧ w'.cell? ⟨rb, 3, none⟩ = some (.iface 86 (.pointer (some ⟨sb, 0, none⟩))) ∧ Below lo w w' := by
  have HS := Asd.mk (slow_calls w lo rb g c x2 x3 hlo hgr hr h0 h1 h2 h3)
  have H0 := Asd.mk (bload0 ⟨rb, 0, none⟩ w (cell_of_row _ _ 0 _ _ _ hr))
  clear hr h0 h1 h2 h3
  go_enter Try.func28, Try.ntmps28
  go_wp2_with fail
  refine H0.out.mono ?_
  rintro e w' ⟨rfl, rfl⟩
  go_wp2_with fail
  refine HS.out.mono ?_
  rintro e w' ⟨rfl, hp⟩
  have HP := Asd.mk hp
  clear hp
  go_wp2_with fail
  go_end0
  exact ⟨rfl, HP.out⟩
end Go.Proofs.Ytbpkmgkdbgdmeaa
