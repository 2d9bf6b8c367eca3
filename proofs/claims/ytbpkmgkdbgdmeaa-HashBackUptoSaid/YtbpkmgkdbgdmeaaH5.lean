import Derived.Test.YtbpkmgkdbgdmeaaH4
import Derived.OneCell
import Derived.Deep.Draws
/-! The replacer: NewReplacer. -/
namespace Go.Proofs.Ytbpkmgkdbgdmeaa
open Go.RowKit
set_option linter.unusedSimpArgs false
set_option linter.unusedVariables false

theorem own_form {w : World} {base : Nat} {e : TypeId} {size : Nat} {v : Value} {n : Nat} {xs : List Value} (h : w.ownsRow base e size v n xs) (hn : 0 < n) : ∃ g c, v = .slice (some ⟨g, 0, none⟩) n c ∧ v.ownBlock = some g := by
  rcases h.2 with ⟨_, h0⟩ | ⟨g, cap, cur, rfl, _⟩
  · omega
  · exact ⟨g, cap, rfl, rfl⟩
set_option maxRecDepth 20000 in
theorem new_calls (w : World) (a : Nat) (ca : Nat)
    (h0 : w.cell? ⟨a, 0, none⟩ = some (.string b1)) (h1 : w.cell? ⟨a, 1, none⟩ = some (.string b2)) (h2 : w.cell? ⟨a, 2, none⟩ = some (.string b3)) (h3 : w.cell? ⟨a, 3, none⟩ = some (.string b4)) :
    Calls Try.prog 25 #[.slice (some ⟨a, 0, none⟩) 4 ca] w fun e w' => ∃ rb g c x2 x3, e = .returned (.pointer (some ⟨rb, 0, none⟩)) ∧ w.heap.size ≤ rb ∧ g ≠ rb ∧ Below w.heap.size w w' ∧
      w'.heap[rb]? = some (.cells #[.int .u32 0, .int .i32 0, x2, x3, .slice (some ⟨g, 0, none⟩) 4 c] 66 (0, 0)) ∧
      w'.cell? ⟨g, 0, none⟩ = some (.string b1) ∧ w'.cell? ⟨g, 1, none⟩ = some (.string b2) ∧ w'.cell? ⟨g, 2, none⟩ = some (.string b3) ∧ w'.cell? ⟨g, 3, none⟩ = some (.string b4) := by
  obtain ⟨i0, hi, hz0, hz1, hz2⟩ := info_parts info9
  have HN : Asd (∀ W, Below w.heap.size w W → ∀ (j : Nat) (u : Value), [Value.string b1, .string b2, .string b3, .string b4][j]? = some u → W.cell? ((⟨a, 0, none⟩ : Addr).add j) = some u) := ⟨fun W hb j u hj => by
    have hl := World.block_lt_of_cell? _ _ h0
    have hadd : (⟨a, 0, none⟩ : Addr).add j = ⟨a, j, none⟩ := by rw [Addr.add_mid]; simp
    rw [hadd, hb.cell (p := ⟨a, j, none⟩) hl]
    match j, hj with
    | 0, hj => simp at hj; rw [h0, hj]
    | 1, hj => simp at hj; rw [h1, hj]
    | 2, hj => simp at hj; rw [h2, hj]
    | 3, hj => simp at hj; rw [h3, hj]⟩
  clear h0 h1 h2 h3
  generalize b1 = s1 at *
  generalize b2 = s2 at *
  generalize b3 = s3 at *
  generalize b4 = s4 at *
  go_enter Try.func25, Try.ntmps25
  go_wp2_with (at_builtin; refine wpList_append_own_at _ rfl _ _ 29 rfl w.heap.size 9 i0 (.string ⟨#[]⟩) 1 16 Try.underlying29 hi hz0 hz1 hz2 rfl (by decide) _ 0 [] rfl (World.ownsRow_nil _ _ _ _) ⟨a, 0, none⟩ 4 ca [.string s1, .string s2, .string s3, .string s4] rfl rfl (HN.out _ (by first | exact Below.refl _ _ | exact (Below.refl _ _).alloc (Nat.le_refl _) _)) (by simp [Value.oneCell']) (by decide) (by omega) (by simp) ?_; intro v1 w1 hown hg _ hat; obtain ⟨g1, c1, rfl, _⟩ := own_form hown (by omega))
  have hg2 : w.grownBy w1 none := hg
  have hB : Below w.heap.size w w1 := ⟨hg2.os, hg2.tape, hg2.output, hg2.size, fun k hk => hg2.block k hk (by simp)⟩
  have hl := hown.lt g1 rfl
  have e0 := hown.cellAt 0 (by simp)
  have e1 := hown.cellAt 1 (by simp)
  have e2 := hown.cellAt 2 (by simp)
  have e3 := hown.cellAt 3 (by simp)
  have hb2 : Below w1.heap.size w1 (w1.alloc (.cells #[.int .u32 0, .int .i32 0, .int .u32 0, .nilIface, .slice (some ⟨g1, 0, none⟩) 4 c1] 66)) := (Below.refl _ _).alloc (Nat.le_refl _) _
  go_ret
  refine ⟨w1.heap.size, g1, c1, _, _, rfl, hB.size, by omega, hB.trans (hb2.mono hB.size), heap_alloc_new _ _, ?_, ?_, ?_, ?_⟩
  · exact (hb2.cell (p := ⟨g1, 0, none⟩) hl.2).trans e0
  · exact (hb2.cell (p := ⟨g1, 1, none⟩) hl.2).trans e1
  · exact (hb2.cell (p := ⟨g1, 2, none⟩) hl.2).trans e2
  · exact (hb2.cell (p := ⟨g1, 3, none⟩) hl.2).trans e3
end Go.Proofs.Ytbpkmgkdbgdmeaa
