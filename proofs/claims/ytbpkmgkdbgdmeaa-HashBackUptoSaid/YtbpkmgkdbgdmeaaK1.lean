import Derived.Test.YtbpkmgkdbgdmeaaK0
/-! The replacer: Replace through the interface; a key's part. -/
namespace Go.Proofs.Ytbpkmgkdbgdmeaa
open Go.RowKit
set_option linter.unusedSimpArgs false
set_option linter.unusedVariables false

theorem method_rep (a : Addr) (w : World) : (method 251 86 (.pointer (some a)) "Replace").run Try.prog w = .ok (91, .pointer (some a)) w := by kernel_rfl
set_option maxRecDepth 100000 in
theorem replace_calls (w : World) (lo rb g c : Nat) (x2 x3 : Value) (s : ByteArray) (hlo : lo ≤ rb) (hgr : g ≠ rb) (hs : s.size ≤ 100000)
    (hr : w.heap[rb]? = some (.cells #[.int .u32 0, .int .i32 0, x2, x3, .slice (some ⟨g, 0, none⟩) 4 c] 66 (0, 0)))
    (h0 : w.cell? ⟨g, 0, none⟩ = some (.string b1)) (h1 : w.cell? ⟨g, 1, none⟩ = some (.string b2)) (h2 : w.cell? ⟨g, 2, none⟩ = some (.string b3)) (h3 : w.cell? ⟨g, 3, none⟩ = some (.string b4)) :
    Calls Try.prog 26 #[.pointer (some ⟨rb, 0, none⟩), .string s] w fun e w' => e = .returned (.string ⟨(escL s.data.toList).toArray⟩) ∧ Below lo w w' := by
  have HD := Asd.mk (do_calls w lo rb g c x2 x3 hlo hgr hr h0 h1 h2 h3)
  have hlw : lo ≤ w.heap.size := Nat.le_trans hlo (Nat.le_of_lt (Array.getElem?_eq_some_iff.1 hr).1)
  clear hr h0 h1 h2 h3
  have hm := method_rep
  go_enter Try.func26, Try.ntmps26
  go_wp2_with fail
  refine HD.out.mono ?_
  rintro e w1 ⟨rfl, sb, HB, hc, hb⟩
  have HBS := Asd.mk (rep_calls w1 sb s HB hs)
  have HBB := Asd.mk hb
  clear HB hb HD
  go_wp2_with fail
  refine HBS.out.mono ?_
  rintro e w2 ⟨rfl, hb2⟩
  have HB2 := Asd.mk hb2
  clear hb2
  go_wp2_with fail
  go_ret
  exact ⟨rfl, HBB.out.trans (HB2.out.mono (Nat.le_trans hlw HBB.out.size))⟩
end Go.Proofs.Ytbpkmgkdbgdmeaa
