import Derived.Test.YtbpkmgkdbgdmeaaH2
/-! The replacer: doSlow, Do. -/
namespace Go.Proofs.Ytbpkmgkdbgdmeaa
open Go.RowKit
set_option linter.unusedSimpArgs false
set_option linter.unusedVariables false

theorem bload0 (a : Addr) (w : World) (hc : w.cell? a = some (.int .u32 0)) : Calls Try.prog 31 #[.pointer (some a)] w fun e w' => e = .returned (.bool false) ∧ w' = w := by
  have hl := run_call_load (P := Try.prog) Try.func34 (by kernel_rfl) (by kernel_rfl) (by kernel_rfl) .u32 (by kernel_rfl) (w := w) (a := a) (x := 0) hc
  go_enter Try.func31, Try.ntmps31
  go_wp2
  go_ret
  exact ⟨rfl, rfl⟩
set_option maxRecDepth 100000 in
set_option maxHeartbeats 1600000 in
theorem slow_calls (w : World) (lo rb g c : Nat) (x2 x3 : Value) (hlo : lo ≤ rb) (hgr : g ≠ rb)
    (hr : w.heap[rb]? = some (.cells #[.int .u32 0, .int .i32 0, x2, x3, .slice (some ⟨g, 0, none⟩) 4 c] 66 (0, 0)))
    (h0 : w.cell? ⟨g, 0, none⟩ = some (.string b1)) (h1 : w.cell? ⟨g, 1, none⟩ = some (.string b2)) (h2 : w.cell? ⟨g, 2, none⟩ = some (.string b3)) (h3 : w.cell? ⟨g, 3, none⟩ = some (.string b4)) :
    Calls Try.prog 32 #[.pointer (some ⟨rb, 0, none⟩), .func (.func 29) #[.pointer (some ⟨rb, 0, none⟩)] #[]] w fun e w' => e = .returned (.tuple #[]) ∧
      ∃ sb, BRep w' sb ∧ w'.cell? ⟨rb, 3, none⟩ = some (.iface 86 (.pointer (some ⟨sb, 0, none⟩))) ∧ Below lo w w' := by
  have hrl : rb < w.heap.size := (Array.getElem?_eq_some_iff.1 hr).1
  have hf : Fr (fun k => k = rb) w (w.setCell ⟨rb, 1, none⟩ (.int .i32 1)) := (Fr.refl _ w).setCell (F := fun k => k = rb) (p := ⟨rb, 1, none⟩) rfl _
  have hr1 : (w.setCell ⟨rb, 1, none⟩ (.int .i32 1)).heap[rb]? = some (.cells #[.int .u32 0, .int .i32 1, x2, x3, .slice (some ⟨g, 0, none⟩) 4 c] 66 (0, 0)) := heap_setCell_same w rb 1 _ 66 _ hr
  have hb := Asd.mk (buildOnce_calls (w.setCell ⟨rb, 1, none⟩ (.int .i32 1)) rb g c _ _ _ _ hr1 (cell_fr h0 hf hgr) (cell_fr h1 hf hgr) (cell_fr h2 hf hgr) (cell_fr h3 hf hgr))
  have HW := Asd.mk (show Below lo w (w.setCell ⟨rb, 1, none⟩ (.int .i32 1)) from (Below.refl _ w).setCell hlo _)
  have hl := run_call_load (P := Try.prog) Try.func34 (by kernel_rfl) (by kernel_rfl) (by kernel_rfl) .u32 (by kernel_rfl) (w := w.setCell ⟨rb, 1, none⟩ (.int .i32 1)) (a := ⟨rb, 0, none⟩) (x := 0) (cell_of_row _ _ 0 _ _ _ hr1)
  have hnot : ∀ (x : Bool) (w : World), (Op.unary .not (.bool x)).run Try.prog w = .ok (.bool (!x)) w := fun _ _ => rfl
  have c1 : w.cell? ⟨rb, 1, none⟩ = some (.int .i32 0) := cell_of_row _ _ 1 _ _ _ hr
  have f1 : w.frozen? ⟨rb, 1, none⟩ = false := by unfold World.frozen?; rw [hr]; simp
  have HR1 := Asd.mk hr1
  clear hr h0 h1 h2 h3 hf hr1
  go_enter_defers Try.func32, Try.ntmps32
  go_wp2_with fail
  refine (lock_free ⟨rb, 1, none⟩ w c1 f1).mono ?_
  rintro e w' ⟨rfl, rfl⟩
  go_wp2_with fail
  refine (bload0 ⟨rb, 0, none⟩ _ (cell_of_row _ _ 0 _ _ _ HR1.out)).mono ?_
  rintro e w' ⟨rfl, rfl⟩
  go_wp2_with fail
  refine hb.out.mono ?_
  rintro e w' ⟨rfl, sb, w1, rfl, hB, hw⟩
  have hr3 : w1.heap[rb]? = some (.cells #[.int .u32 0, .int .i32 1, x2, x3, .slice (some ⟨g, 0, none⟩) 4 c] 66 (0, 0)) := (hw.block rb (Array.getElem?_eq_some_iff.1 HR1.out).1).trans HR1.out
  have hr4 := heap_setCell_same w1 rb 3 _ 66 (.iface 86 (.pointer (some ⟨sb, 0, none⟩))) hr3
  have hr5 := heap_setCell_same _ rb 4 _ 66 (.slice none 0 0) hr4
  have hsb : sb ≠ rb := by
    rintro rfl
    have h58 := hB.r58
    obtain ⟨h, c', h1, _⟩ := h58
    rw [cell_of_row _ _ 58 _ _ _ hr3] at h1
    simp at h1
  have HFIN : Asd (∀ W, Fr (fun k => k = rb) w1 W → BRep W sb) := ⟨fun W hF => by
    have z0 : w1.cell? ⟨rb, 0, none⟩ = some (.int .u32 0) := cell_of_row _ _ 0 _ _ _ hr3
    have hrow : ∀ h s, RowB w1 h s → 0 < s.size → RowB W h s := fun h s H hs => H.fr hF fun e => by
      subst e
      have := H.2 0 hs
      rw [z0] at this
      simp at this
    obtain ⟨h, c', h1, h2⟩ := hB.r58
    obtain ⟨i, c'', i1, i2⟩ := hB.r92
    obtain ⟨tb, t1, t2, t3⟩ := hB.t
    have htb : tb ≠ rb := by
      rintro rfl
      rw [z0] at t2
      simp at t2
    exact ⟨fun j a b c => cell_fr (hB.nil j a b c) hF hsb, ⟨h, c', cell_fr h1 hF hsb, hrow _ _ h2 (by decide)⟩, ⟨i, c'', cell_fr i1 hF hsb, hrow _ _ i2 (by decide)⟩, ⟨tb, cell_fr t1 hF hsb, cell_fr t2 hF htb, cell_fr t3 hF htb⟩⟩⟩
  have HBEL := Asd.mk (HW.out.trans (hw.mono (Nat.le_trans (by omega : lo ≤ w.heap.size) HW.out.size)))
  have c3 : ((w1.setCell ⟨rb, 3, none⟩ (.iface 86 (.pointer (some ⟨sb, 0, none⟩)))).setCell ⟨rb, 4, none⟩ (.slice none 0 0)).cell? ⟨rb, 3, none⟩ = some (.iface 86 (.pointer (some ⟨sb, 0, none⟩))) := cell_of_row _ _ 3 _ _ _ hr5
  have hF2 : Fr (fun k => k = rb) w1 ((w1.setCell ⟨rb, 3, none⟩ (.iface 86 (.pointer (some ⟨sb, 0, none⟩)))).setCell ⟨rb, 4, none⟩ (.slice none 0 0)) := ((Fr.refl (fun k => k = rb) w1).setCell (F := fun k => k = rb) (p := ⟨rb, 3, none⟩) rfl _).setCell (F := fun k => k = rb) (p := ⟨rb, 4, none⟩) rfl _
  have hB2 : Below lo w ((w1.setCell ⟨rb, 3, none⟩ (.iface 86 (.pointer (some ⟨sb, 0, none⟩)))).setCell ⟨rb, 4, none⟩ (.slice none 0 0)) := (HBEL.out.setCell (p := ⟨rb, 3, none⟩) hlo _).setCell (p := ⟨rb, 4, none⟩) hlo _
  go_wp2
  generalize ((w1.setCell ⟨rb, 3, none⟩ (.iface 86 (.pointer (some ⟨sb, 0, none⟩)))).setCell ⟨rb, 4, none⟩ (.slice none 0 0)) = W2 at *
  refine leaves_cons (f := 37) (args := #[.pointer (some ⟨rb, 0, none⟩), .bool true]) (by simp) (by simp [go_sem]) ?_
  refine (store_deferred ⟨rb, 0, none⟩ (.int .u32 0) .returning _ (cell_of_row _ _ 0 _ _ _ hr5) (by unfold World.frozen?; rw [hr5]; simp)).mono ?_
  rintro e u' w'' ⟨rfl, rfl, rfl⟩
  have hr6 := heap_setCell_same W2.drew rb 0 _ 66 (.int .u32 1) hr5
  have hF3 : Fr (fun k => k = rb) w1 (W2.drew.setCell ⟨rb, 0, none⟩ (.int .u32 1)) := (⟨hF2.size, hF2.block⟩ : Fr (fun k => k = rb) w1 W2.drew).setCell (F := fun k => k = rb) (p := ⟨rb, 0, none⟩) rfl _
  have hB3 : Below lo w (W2.drew.setCell ⟨rb, 0, none⟩ (.int .u32 1)) := hB2.drew.setCell (p := ⟨rb, 0, none⟩) hlo _
  have c4 : (W2.drew.setCell ⟨rb, 0, none⟩ (.int .u32 1)).cell? ⟨rb, 3, none⟩ = some (.iface 86 (.pointer (some ⟨sb, 0, none⟩))) := cell_of_row _ _ 3 _ _ _ hr6
  generalize (W2.drew.setCell ⟨rb, 0, none⟩ (.int .u32 1)) = W3 at *
  refine leaves_cons (f := 36) (args := #[.pointer (some ⟨rb, 1, none⟩)]) (by simp [settle]) (by simp [go_sem]) ?_
  refine (unlock_deferred ⟨rb, 1, none⟩ _ _ (cell_of_row _ _ 1 _ _ _ hr6) (by unfold World.frozen?; rw [hr6]; simp)).mono ?_
  rintro e u' w'' ⟨rfl, rfl, rfl⟩
  have hr7 := heap_setCell_same _ rb 1 _ 66 (.int .i32 0) hr6
  have hF4 := HFIN.out _ (hF3.setCell (F := fun k => k = rb) (p := ⟨rb, 1, none⟩) rfl (.int .i32 0))
  have hB4 : Below lo w (W3.setCell ⟨rb, 1, none⟩ (.int .i32 0)) := hB3.setCell (p := ⟨rb, 1, none⟩) hlo _
  have c5 : (W3.setCell ⟨rb, 1, none⟩ (.int .i32 0)).cell? ⟨rb, 3, none⟩ = some (.iface 86 (.pointer (some ⟨sb, 0, none⟩))) := cell_of_row _ _ 3 _ _ _ hr7
  have hpost : ∃ sb, BRep (W3.setCell ⟨rb, 1, none⟩ (.int .i32 0)) sb ∧ (W3.setCell ⟨rb, 1, none⟩ (.int .i32 0)).cell? ⟨rb, 3, none⟩ = some (.iface 86 (.pointer (some ⟨sb, 0, none⟩))) ∧ Below lo w (W3.setCell ⟨rb, 1, none⟩ (.int .i32 0)) := ⟨sb, hF4, c5, hB4⟩
  clear hr7 hF4 hB4 c5
  simp [Leaves, settle, results, Try.results32]
  exact hpost
end Go.Proofs.Ytbpkmgkdbgdmeaa
