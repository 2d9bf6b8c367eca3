import Derived.Test.YtbpkmgkdbgdmeaaH0
import Derived.Below
import Derived.OwnWalk
import Derived.Laws.OwnMore
import Derived.RowKit3
import Derived.Maps.AppendAt
import Derived.WalkLawsBesides
import Derived.Lib.ConvBytes
/-! A replacer of bytes that is being built: its cells. -/
namespace Go.Proofs.Ytbpkmgkdbgdmeaa
open Go.RowKit
set_option linter.unusedSimpArgs false
set_option linter.unusedVariables false

structure Asd (p : Prop) : Prop where mk :: (out : p)

/-- Nothing has turned but in F; new blocks may be there. -/
structure Fr (F : Nat → Prop) (w w' : World) : Prop where
  size : w.heap.size ≤ w'.heap.size
  block : ∀ k, k < w.heap.size → ¬ F k → w'.heap[k]? = w.heap[k]?
theorem Fr.refl (F : Nat → Prop) (w : World) : Fr F w w := ⟨Nat.le_refl _, fun _ _ _ => rfl⟩
theorem Fr.alloc {F : Nat → Prop} {w w' : World} (h : Fr F w w') (o : Obj) : Fr F w (w'.alloc o) :=
  ⟨by have := h.size; simp; omega, fun i hi hf => by rw [Below.heap_alloc _ _ _ (Nat.lt_of_lt_of_le hi h.size)]; exact h.block i hi hf⟩
theorem Fr.setCell {F : Nat → Prop} {w w' : World} (h : Fr F w w') {p : Addr} (hp : F p.block) (u : Value) : Fr F w (w'.setCell p u) :=
  ⟨by have := h.size; simpa [World.setCell] using this, fun i hi hf => by
    rw [Below.heap_setCell _ _ _ _ (fun e => by subst e; exact hf hp)]; exact h.block i hi hf⟩
theorem Fr.bytes {F : Nat → Prop} {w w' : World} (h : Fr F w w') (e : TypeId) (s : ByteArray) : Fr F w (Lib.bytesWorld w' e s) :=
  ⟨by have := h.size; rw [Lib.bytesWorld_size]; omega, fun i hi hf => by
    rw [Lib.bytesWorld_at_old _ _ _ _ (Nat.lt_of_lt_of_le hi h.size)]; exact h.block i hi hf⟩
theorem Fr.below {F : Nat → Prop} {w w' w'' : World} (h : Fr F w w') (hb : Below w'.heap.size w' w'') : Fr F w w'' :=
  ⟨Nat.le_trans h.size hb.size, fun i hi hf => (hb.block i (Nat.lt_of_lt_of_le hi h.size)).trans (h.block i hi hf)⟩
theorem cell_fr {W W' : World} {F : Nat → Prop} {p : Addr} {v : Value} (h : W.cell? p = some v) (hf : Fr F W W') (hp : ¬ F p.block) : W'.cell? p = some v := by
  have hl := World.block_lt_of_cell? W _ h
  rw [← h]
  unfold World.cell?
  rw [hf.block p.block hl hp]
theorem frozen_fr {W W' : World} {F : Nat → Prop} {p : Addr} (hl : p.block < W.heap.size) (hf : Fr F W W') (hp : ¬ F p.block) : W'.frozen? p = W.frozen? p := by
  unfold World.frozen?
  rw [hf.block p.block hl hp]
theorem bytes_below {B : Nat} {w W : World} (h : Below B w W) (hB : B ≤ W.heap.size) (e : TypeId) (s : ByteArray) : Below B w (Lib.bytesWorld W e s) :=
  ⟨h.os, h.tape, h.output, by have := h.size; rw [Lib.bytesWorld_size]; omega, fun k hk => (Lib.bytesWorld_at_old _ _ _ _ (Nat.lt_of_lt_of_le hk hB)).trans (h.block k hk)⟩

/-- A row of bytes. -/
def RowB (W : World) (h : Nat) (s : ByteArray) : Prop := h < W.heap.size ∧ ∀ i, i < s.size → W.cell? ⟨h, i, none⟩ = some (.int .u8 (s.data.toList.getD i 0).toNat)
theorem RowB.fr {W W' : World} {F : Nat → Prop} {h : Nat} {s : ByteArray} (H : RowB W h s) (hf : Fr F W W') (hh : ¬ F h) : RowB W' h s :=
  ⟨Nat.lt_of_lt_of_le H.1 hf.size, fun i hi => cell_fr (H.2 i hi) hf hh⟩
theorem RowB.new (W : World) (s : ByteArray) : RowB (Lib.bytesWorld W 5 s) W.heap.size s := ⟨by rw [Lib.bytesWorld_size]; omega, fun i hi => Lib.bytesWorld_cell W 5 s i hi⟩
end Go.Proofs.Ytbpkmgkdbgdmeaa
