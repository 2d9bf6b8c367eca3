import Derived.Test.YtbpkmgkdbgdmeaaH1a
import Derived.Below
import Derived.Deep.DeepCutAuto
import Derived.Deep.CutBlock
import Derived.Deep.LoopGhost
import Derived.Deep.QuietTactic
import Derived.Deep.RegionHeld3
import Derived.OwnWalk
import Derived.Laws.OwnMore
import Derived.Deep.OwnRows
import Derived.RowKit3
import Derived.Laws.MakeOwn
import Derived.Maps.AppendAt
import Derived.Deep.AppendLies
import Derived.Deep.WholeRow
import Derived.WalkLawsBesides
import Derived.Laws.BytesArg
import Derived.Lib.ConvBytes
import Derived.WalkSpells
/-! The replacer: build. -/
namespace Go.Proofs.Ytbpkmgkdbgdmeaa
open Go.RowKit
set_option linter.unusedSimpArgs false
set_option linter.unusedVariables false

theorem info9 : (Try.prog.info? 9).map (fun i => (i.zero, i.size, i.bytes)) = some (some (.string ⟨#[]⟩), 1, 16) := by kernel_rfl
theorem info5 : (Try.prog.info? 5).map (fun i => (i.zero, i.size, i.bytes)) = some (some (.int .u8 0), 1, 1) := by kernel_rfl
theorem z85size : Try.zeroCells85.size = 257 := by kernel_rfl
def isNil : Value → Bool
  | .slice none 0 0 => true
  | _ => false
theorem z85one : Try.zeroCells85.toList.all isNil = true := by kernel_rfl
theorem info85 : (Try.prog.info? 85).map (·.size) = some 257 := by kernel_rfl
def b1 : ByteArray := ⟨#[92]⟩
def b2 : ByteArray := ⟨#[92, 92]⟩
def b3 : ByteArray := ⟨#[58]⟩
def b4 : ByteArray := ⟨#[92, 58]⟩

/-- The replacer of bytes, built. -/
structure BRep (W : World) (sb : Nat) : Prop where
  nil : ∀ j, j < 256 → j ≠ 58 → j ≠ 92 → W.cell? ⟨sb, j, none⟩ = some (.slice none 0 0)
  r58 : ∃ h c, W.cell? ⟨sb, 58, none⟩ = some (.slice (some ⟨h, 0, none⟩) 2 c) ∧ RowB W h b4
  r92 : ∃ h c, W.cell? ⟨sb, 92, none⟩ = some (.slice (some ⟨h, 0, none⟩) 2 c) ∧ RowB W h b2
  t : ∃ tb, W.cell? ⟨sb, 256, none⟩ = some (.slice (some ⟨tb, 0, none⟩) 2 2) ∧ W.cell? ⟨tb, 0, none⟩ = some (.string b3) ∧ W.cell? ⟨tb, 1, none⟩ = some (.string b1)
/-- After so much of it: the row of bytes that are replaced, and what replaces them. -/
structure Bld (w W : World) (sb tb g n : Nat) (s1 s2 s3 s4 t0 t1 : ByteArray) (v58 v92 : Value) : Prop where
  g0 : W.cell? ⟨g, 0, none⟩ = some (.string s1)
  g1 : W.cell? ⟨g, 1, none⟩ = some (.string s2)
  g2 : W.cell? ⟨g, 2, none⟩ = some (.string s3)
  g3 : W.cell? ⟨g, 3, none⟩ = some (.string s4)
  nil : ∀ j, j < 256 → j ≠ 58 → j ≠ 92 → W.cell? ⟨sb, j, none⟩ = some (.slice none 0 0)
  c58 : W.cell? ⟨sb, 58, none⟩ = some v58
  c92 : W.cell? ⟨sb, 92, none⟩ = some v92
  ct : W.cell? ⟨sb, 256, none⟩ = some (.slice (some ⟨tb, 0, none⟩) n 2)
  t0 : W.cell? ⟨tb, 0, none⟩ = some (.string t0)
  t1 : W.cell? ⟨tb, 1, none⟩ = some (.string t1)
  sf : ∀ i, W.frozen? ⟨sb, i, none⟩ = false
  tf : ∀ i, W.frozen? ⟨tb, i, none⟩ = false
  lg : g < w.heap.size
  lt : w.heap.size ≤ tb
  ls : tb < sb
  ll : sb < W.heap.size
  bel : Below w.heap.size w W
theorem Bld.alloc {w W : World} {sb tb g n : Nat} {s1 s2 s3 s4 t0 t1 : ByteArray} {v58 v92 : Value} (H : Bld w W sb tb g n s1 s2 s3 s4 t0 t1 v58 v92) {W' : World} (hf : Fr (fun _ => False) W W') (hb : Below w.heap.size w W') : Bld w W' sb tb g n s1 s2 s3 s4 t0 t1 v58 v92 :=
  ⟨cell_fr H.g0 hf id, cell_fr H.g1 hf id, cell_fr H.g2 hf id, cell_fr H.g3 hf id, fun j h1 h2 h3 => cell_fr (H.nil j h1 h2 h3) hf id, cell_fr H.c58 hf id, cell_fr H.c92 hf id, cell_fr H.ct hf id, cell_fr H.t0 hf id, cell_fr H.t1 hf id,
    fun i => (frozen_fr (p := ⟨sb, i, none⟩) H.ll hf id).trans (H.sf i), fun i => (frozen_fr (p := ⟨tb, i, none⟩) (Nat.lt_trans H.ls H.ll) hf id).trans (H.tf i), H.lg, H.lt, H.ls, Nat.lt_of_lt_of_le H.ll hf.size, hb⟩
theorem Bld.al {w W : World} {sb tb g n : Nat} {s1 s2 s3 s4 t0 t1 : ByteArray} {v58 v92 : Value} (H : Bld w W sb tb g n s1 s2 s3 s4 t0 t1 v58 v92) (o : Obj) : Bld w (W.alloc o) sb tb g n s1 s2 s3 s4 t0 t1 v58 v92 := H.alloc ((Fr.refl _ W).alloc o) (H.bel.alloc H.bel.size o)
theorem Bld.by {w W : World} {sb tb g n : Nat} {s1 s2 s3 s4 t0 t1 : ByteArray} {v58 v92 : Value} (H : Bld w W sb tb g n s1 s2 s3 s4 t0 t1 v58 v92) (s : ByteArray) : Bld w (Lib.bytesWorld W 5 s) sb tb g n s1 s2 s3 s4 t0 t1 v58 v92 := H.alloc ((Fr.refl _ W).bytes 5 s) (bytes_below H.bel H.bel.size 5 s)
theorem Bld.sets {w W : World} {sb tb g n n' : Nat} {s1 s2 s3 s4 t0 t1 t0' t1' : ByteArray} {v58 v92 v58' v92' : Value} {p : Addr} {u : Value} (H : Bld w W sb tb g n s1 s2 s3 s4 t0 t1 v58 v92) (hp : p.block = sb ∨ p.block = tb)
    (hn : ∀ j, j < 256 → j ≠ 58 → j ≠ 92 → p ≠ ⟨sb, j, none⟩) (h58 : (W.setCell p u).cell? ⟨sb, 58, none⟩ = some v58') (h92 : (W.setCell p u).cell? ⟨sb, 92, none⟩ = some v92') (hct : (W.setCell p u).cell? ⟨sb, 256, none⟩ = some (.slice (some ⟨tb, 0, none⟩) n' 2))
    (ht0 : (W.setCell p u).cell? ⟨tb, 0, none⟩ = some (.string t0')) (ht1 : (W.setCell p u).cell? ⟨tb, 1, none⟩ = some (.string t1')) : Bld w (W.setCell p u) sb tb g n' s1 s2 s3 s4 t0' t1' v58' v92' := by
  have hl := H.lg
  have h2 := H.lt
  have h3 := H.ls
  have hf : Fr (fun k => k = sb ∨ k = tb) W (W.setCell p u) := (Fr.refl _ W).setCell (F := fun k => k = sb ∨ k = tb) hp u
  have hg : ¬ (g = sb ∨ g = tb) := by omega
  exact ⟨cell_fr H.g0 hf hg, cell_fr H.g1 hf hg, cell_fr H.g2 hf hg, cell_fr H.g3 hf hg, fun j a b c => (World.cell?_setCell_other W p ⟨sb, j, none⟩ u (hn j a b c)).trans (H.nil j a b c), h58, h92, hct, ht0, ht1,
    fun i => by simp [H.sf], fun i => by simp [H.tf], hl, h2, h3, Nat.lt_of_lt_of_le H.ll hf.size, H.bel.setCell (by rcases hp with h | h <;> omega) u⟩
theorem Bld.set58 {w W : World} {sb tb g n : Nat} {s1 s2 s3 s4 t0 t1 : ByteArray} {v58 v92 : Value} (H : Bld w W sb tb g n s1 s2 s3 s4 t0 t1 v58 v92) (u : Value) : Bld w (W.setCell ⟨sb, 58, none⟩ u) sb tb g n s1 s2 s3 s4 t0 t1 u v92 := by
  have h3 := H.ls
  have ne : ∀ i, (⟨sb, 58, none⟩ : Addr) ≠ ⟨tb, i, none⟩ := fun i e => by injection e with e; omega
  exact H.sets (.inl rfl) (fun j _ h _ e => h (by injection e with _ e; exact e.symm)) (World.cell?_setCell_same W _ _ H.c58) ((World.cell?_setCell_other W _ _ u (by simp)).trans H.c92) ((World.cell?_setCell_other W _ _ u (by simp)).trans H.ct) ((World.cell?_setCell_other W _ _ u (ne 0)).trans H.t0) ((World.cell?_setCell_other W _ _ u (ne 1)).trans H.t1)
theorem Bld.set92 {w W : World} {sb tb g n : Nat} {s1 s2 s3 s4 t0 t1 : ByteArray} {v58 v92 : Value} (H : Bld w W sb tb g n s1 s2 s3 s4 t0 t1 v58 v92) (u : Value) : Bld w (W.setCell ⟨sb, 92, none⟩ u) sb tb g n s1 s2 s3 s4 t0 t1 v58 u := by
  have h3 := H.ls
  have ne : ∀ i, (⟨sb, 92, none⟩ : Addr) ≠ ⟨tb, i, none⟩ := fun i e => by injection e with e; omega
  exact H.sets (.inl rfl) (fun j _ _ h e => h (by injection e with _ e; exact e.symm)) ((World.cell?_setCell_other W _ _ u (by simp)).trans H.c58) (World.cell?_setCell_same W _ _ H.c92) ((World.cell?_setCell_other W _ _ u (by simp)).trans H.ct) ((World.cell?_setCell_other W _ _ u (ne 0)).trans H.t0) ((World.cell?_setCell_other W _ _ u (ne 1)).trans H.t1)
theorem Bld.setT {w W : World} {sb tb g n : Nat} {s1 s2 s3 s4 t0 t1 : ByteArray} {v58 v92 : Value} (H : Bld w W sb tb g n s1 s2 s3 s4 t0 t1 v58 v92) (m : Nat) : Bld w (W.setCell ⟨sb, 256, none⟩ (.slice (some ⟨tb, 0, none⟩) m 2)) sb tb g m s1 s2 s3 s4 t0 t1 v58 v92 := by
  have h3 := H.ls
  have ne : ∀ i, (⟨sb, 256, none⟩ : Addr) ≠ ⟨tb, i, none⟩ := fun i e => by injection e with e; omega
  exact H.sets (.inl rfl) (fun j h _ _ e => by injection e with _ e; omega) ((World.cell?_setCell_other W _ _ _ (by simp)).trans H.c58) ((World.cell?_setCell_other W _ _ _ (by simp)).trans H.c92) (World.cell?_setCell_same W _ _ H.ct) ((World.cell?_setCell_other W _ _ _ (ne 0)).trans H.t0) ((World.cell?_setCell_other W _ _ _ (ne 1)).trans H.t1)
theorem Bld.put0 {w W : World} {sb tb g n : Nat} {s1 s2 s3 s4 t0 t1 : ByteArray} {v58 v92 : Value} (H : Bld w W sb tb g n s1 s2 s3 s4 t0 t1 v58 v92) (x : ByteArray) : Bld w (W.setCell ⟨tb, 0, none⟩ (.string x)) sb tb g n s1 s2 s3 s4 x t1 v58 v92 := by
  have h3 := H.ls
  have ne : ∀ i, (⟨tb, 0, none⟩ : Addr) ≠ ⟨sb, i, none⟩ := fun i e => by injection e with e; omega
  exact H.sets (.inr rfl) (fun j _ _ _ => ne j) ((World.cell?_setCell_other W _ _ _ (ne _)).trans H.c58) ((World.cell?_setCell_other W _ _ _ (ne _)).trans H.c92) ((World.cell?_setCell_other W _ _ _ (ne _)).trans H.ct) (World.cell?_setCell_same W _ _ H.t0) ((World.cell?_setCell_other W _ _ _ (by simp)).trans H.t1)
theorem Bld.put1 {w W : World} {sb tb g n : Nat} {s1 s2 s3 s4 t0 t1 : ByteArray} {v58 v92 : Value} (H : Bld w W sb tb g n s1 s2 s3 s4 t0 t1 v58 v92) (x : ByteArray) : Bld w (W.setCell ⟨tb, 1, none⟩ (.string x)) sb tb g n s1 s2 s3 s4 t0 x v58 v92 := by
  have h3 := H.ls
  have ne : ∀ i, (⟨tb, 1, none⟩ : Addr) ≠ ⟨sb, i, none⟩ := fun i e => by injection e with e; omega
  exact H.sets (.inr rfl) (fun j _ _ _ => ne j) ((World.cell?_setCell_other W _ _ _ (ne _)).trans H.c58) ((World.cell?_setCell_other W _ _ _ (ne _)).trans H.c92) ((World.cell?_setCell_other W _ _ _ (ne _)).trans H.ct) ((World.cell?_setCell_other W _ _ _ (by simp)).trans H.t0) (World.cell?_setCell_same W _ _ H.t1)
theorem z85get {j : Nat} (h : j < 257) : Try.zeroCells85.toList[j]? = some (.slice none 0 0) := by
  have hl : Try.zeroCells85.toList.length = 257 := by rw [Array.length_toList]; exact z85size
  obtain ⟨v, hv⟩ : ∃ v, Try.zeroCells85.toList[j]? = some v := ⟨_, List.getElem?_eq_getElem (by omega)⟩
  have h1 := List.all_eq_true.1 z85one v (List.mem_of_getElem? hv)
  rw [hv]
  unfold isNil at h1
  split at h1
  · rfl
  · simp at h1
theorem z85set {j : Nat} (h : j < 256) (u : Value) : (Try.zeroCells85.toList.set 256 u).toArray[j]? = some (.slice none 0 0) := by
  rw [List.getElem?_toArray, List.getElem?_set_ne (by omega)]
  exact z85get (by omega)
theorem z85last (u : Value) : (Try.zeroCells85.toList.set 256 u).toArray[256]? = some u := by
  have hl : Try.zeroCells85.toList.length = 257 := (Array.length_toList ..).trans z85size
  rw [List.getElem?_toArray, List.getElem?_set_self (Nat.lt_of_lt_of_eq (by decide) hl.symm)]
theorem z85store (w : World) (u : Value) (hu : u.oneCell' = true) : (storeCells ⟨w.heap.size, 0, none⟩ (Try.zeroCells85.toList.set 256 u)).run Try.prog (w.alloc (.cells Try.zeroCells85 85)) = .ok () (w.alloc (.cells (Try.zeroCells85.toList.set 256 u).toArray 85)) := by
  have hs : (Try.zeroCells85.toList.set 256 u).toArray.size = 257 := by
    rw [List.size_toArray, List.length_set, Array.length_toList]
    exact z85size
  have hone : ∀ i, i < 257 → ∃ v, (Try.zeroCells85.toList.set 256 u).toArray[i]? = some v ∧ v.oneCell' = true := by
    intro i hi
    rcases Nat.lt_or_ge i 256 with h3 | h3
    · exact ⟨_, z85set h3 u, rfl⟩
    · obtain rfl : i = 256 := by omega
      exact ⟨u, z85last u, hu⟩
  have hall : (Try.zeroCells85.toList.set 256 u).toArray.all (·.oneCell') = true := by
    rw [Array.all_eq_true]
    intro i hi
    obtain ⟨v, hv, h1⟩ := hone i (by omega)
    have h2 := Array.getElem?_eq_getElem hi
    rw [hv] at h2
    injection h2 with h2
    rw [← h2]
    exact h1
  have h := run_storeCells_new (P := Try.prog) w 85 Try.zeroCells85 (Try.zeroCells85.toList.set 256 u).toArray (info85.trans (congrArg some hs.symm)) (z85size.trans hs.symm) hall
  exact h
theorem bld_init (w : World) (g : Nat) (s1 s2 s3 s4 : ByteArray) (h0 : w.cell? ⟨g, 0, none⟩ = some (.string s1)) (h1 : w.cell? ⟨g, 1, none⟩ = some (.string s2)) (h2 : w.cell? ⟨g, 2, none⟩ = some (.string s3)) (h3 : w.cell? ⟨g, 3, none⟩ = some (.string s4)) :
    Bld w ((w.alloc (.cells #[.string ⟨#[]⟩, .string ⟨#[]⟩] 9)).alloc (.cells (Try.zeroCells85.toList.set 256 (.slice (some ⟨w.heap.size, 0, none⟩) 0 2)).toArray 85)) (w.alloc (.cells #[.string ⟨#[]⟩, .string ⟨#[]⟩] 9)).heap.size w.heap.size g 0 s1 s2 s3 s4 ⟨#[]⟩ ⟨#[]⟩ (.slice none 0 0) (.slice none 0 0) := by
  have hg : g < w.heap.size := World.block_lt_of_cell? _ _ h0
  have hf : Fr (fun _ => False) w ((w.alloc (.cells #[.string ⟨#[]⟩, .string ⟨#[]⟩] 9)).alloc (.cells (Try.zeroCells85.toList.set 256 (.slice (some ⟨w.heap.size, 0, none⟩) 0 2)).toArray 85)) := ((Fr.refl _ w).alloc _).alloc _
  have hsb := heap_alloc_new (w.alloc (.cells #[.string ⟨#[]⟩, .string ⟨#[]⟩] 9)) (.cells (Try.zeroCells85.toList.set 256 (.slice (some ⟨w.heap.size, 0, none⟩) 0 2)).toArray 85)
  have htb := (Below.heap_alloc (w.alloc (.cells #[.string ⟨#[]⟩, .string ⟨#[]⟩] 9)) (.cells (Try.zeroCells85.toList.set 256 (.slice (some ⟨w.heap.size, 0, none⟩) 0 2)).toArray 85) w.heap.size (by simp)).trans (heap_alloc_new w _)
  refine ⟨cell_fr h0 hf id, cell_fr h1 hf id, cell_fr h2 hf id, cell_fr h3 hf id, fun j a _ _ => (cell_of_row _ _ j _ _ _ hsb).trans (z85set a _), (cell_of_row _ _ 58 _ _ _ hsb).trans (z85set (by omega) _), (cell_of_row _ _ 92 _ _ _ hsb).trans (z85set (by omega) _), (cell_of_row _ _ 256 _ _ _ hsb).trans (z85last _), cell_of_row _ _ 0 _ _ _ htb, cell_of_row _ _ 1 _ _ _ htb, fun i => ?_, fun i => ?_, hg, Nat.le_refl _, by simp, by simp, ((Below.refl _ w).alloc (Nat.le_refl _) _).alloc (by simp) _⟩
  · unfold World.frozen?; rw [hsb]; simp
  · unfold World.frozen?; rw [htb]; simp
theorem conv58 (w : World) : (convert 25 9 (.slice (some ⟨w.heap.size, 0, none⟩) 1 1)).run Try.prog (w.alloc (.cells #[.int .u8 58] 5)) = .ok (.string b3) (w.alloc (.cells #[.int .u8 58] 5)) :=
  run_convert_bytes_arg (P := Try.prog) _ 25 5 Try.underlying25 Try.underlying5 w.heap.size 0 1 1 [58] rfl (fun j hj => by
    match j, hj with
    | 0, _ => exact cell_of_row _ _ 0 _ _ _ (heap_alloc_new _ _)) 9 Try.underlying9
theorem conv92 (w : World) : (convert 25 9 (.slice (some ⟨w.heap.size, 0, none⟩) 1 1)).run Try.prog (w.alloc (.cells #[.int .u8 92] 5)) = .ok (.string b1) (w.alloc (.cells #[.int .u8 92] 5)) :=
  run_convert_bytes_arg (P := Try.prog) _ 25 5 Try.underlying25 Try.underlying5 w.heap.size 0 1 1 [92] rfl (fun j hj => by
    match j, hj with
    | 0, _ => exact cell_of_row _ _ 0 _ _ _ (heap_alloc_new _ _)) 9 Try.underlying9
set_option maxRecDepth 20000 in
set_option maxHeartbeats 4000000 in
theorem build_calls (w : World) (rb g c : Nat) (x0 x1 x2 x3 : Value)
    (hr : w.heap[rb]? = some (.cells #[x0, x1, x2, x3, .slice (some ⟨g, 0, none⟩) 4 c] 66 (0, 0)))
    (h0 : w.cell? ⟨g, 0, none⟩ = some (.string b1)) (h1 : w.cell? ⟨g, 1, none⟩ = some (.string b2)) (h2 : w.cell? ⟨g, 2, none⟩ = some (.string b3)) (h3 : w.cell? ⟨g, 3, none⟩ = some (.string b4)) :
    Calls Try.prog 33 #[.pointer (some ⟨rb, 0, none⟩)] w fun e w' => ∃ sb, e = .returned (.iface 86 (.pointer (some ⟨sb, 0, none⟩))) ∧ BRep w' sb ∧ Below w.heap.size w w' := by
  have r4 : w.cell? ⟨rb, 4, none⟩ = some (.slice (some ⟨g, 0, none⟩) 4 c) := by unfold World.cell?; rw [hr]; rfl
  have BI := Asd.mk (bld_init w g b1 b2 b3 b4 h0 h1 h2 h3)
  have hst := z85store (w.alloc (.cells #[.string ⟨#[]⟩, .string ⟨#[]⟩] 9)) (.slice (some ⟨w.heap.size, 0, none⟩) 0 2) rfl
  have FIN : Asd (∀ W sb tb h c h' c', Bld w W sb tb g 2 b1 b2 b3 b4 b3 b1 (.slice (some ⟨h, 0, none⟩) 2 c) (.slice (some ⟨h', 0, none⟩) 2 c') → RowB W h b4 → RowB W h' b2 → BRep W sb ∧ Below w.heap.size w W) :=
    ⟨fun W sb tb h c h' c' H r1 r2 => ⟨⟨H.nil, ⟨h, c, H.c58, r1⟩, ⟨h', c', H.c92, r2⟩, ⟨tb, H.ct, H.t0, H.t1⟩⟩, H.bel⟩⟩
  have sz1 : b1.size = 1 := rfl
  have sz2 : b2.size = 2 := rfl
  have sz3 : b3.size = 1 := rfl
  have sz4 : b4.size = 2 := rfl
  clear hr
  have by1 : ∀ h, (b1[0]'h).toNat = 92 := fun _ => rfl
  have by3 : ∀ h, (b3[0]'h).toNat = 58 := fun _ => rfl
  have cv58 := conv58
  have cv92 := conv92
  generalize b1 = s1 at *
  generalize b2 = s2 at *
  generalize b3 = s3 at *
  generalize b4 = s4 at *
  obtain ⟨i0, hi, hz0, hz1, hz2⟩ := info_parts info9
  have hrun : (Instr.makeSlice 29 (.int .i64 0) (.int .i64 2)).run Try.prog w = .ok (.slice (some ⟨w.heap.size, 0, none⟩) 0 2) (w.alloc (.cells #[.string ⟨#[]⟩, .string ⟨#[]⟩] 9)) := by
    have h := run_make (P := Try.prog) w 29 9 i0 (.string ⟨#[]⟩) Try.underlying29 hi hz0 .i64 .i64 0 2 (by omega) (by omega) (by rw [hz2]; omega) (by omega)
    rw [hz1] at h
    have hm : madeCells (Value.string ⟨#[]⟩).cells ((2 : Int).toNat * 1) = #[.string ⟨#[]⟩, .string ⟨#[]⟩] := by kernel_rfl
    rw [hm] at h
    exact h
  generalize (w.alloc (.cells #[.string ⟨#[]⟩, .string ⟨#[]⟩] 9)) = w1 at *
  have t10 : ((1 : Nat) != 1) = false := rfl
  go_enter Try.func33, Try.ntmps33
  go_wp2_with fail
  go_loopg [4, 5] 2 (fun kq v4 v5 wr => wr = w ∧ ((kq = 2 ∧ v4 = .bool true ∧ v5 = .int .i64 0) ∨ (kq = 1 ∧ v4 = .bool false ∧ v5 = .int .i64 2) ∨ (kq = 0 ∧ v4 = .bool false ∧ v5 = .int .i64 4)))
  case atStart => exact ⟨rfl, .inl ⟨rfl, rfl, rfl⟩⟩
  case round =>
    obtain ⟨hwr, h⟩ := hrel
    obtain rfl := hwr.symm
    rcases h with h | h | h
    · obtain ⟨rfl, rfl, rfl⟩ := h
      go_wp2_with fail
      go_roundg 1
      case measure => omega
      case rel => exact ⟨rfl, .inr (.inl ⟨rfl, by first | rfl | simp, by first | rfl | go_num⟩)⟩
    · obtain ⟨rfl, rfl, rfl⟩ := h
      go_wp2_with fail
      go_roundg 0
      case measure => omega
      case rel => exact ⟨rfl, .inr (.inr ⟨rfl, by first | rfl | simp, by first | rfl | go_num⟩)⟩
    · obtain ⟨rfl, rfl, rfl⟩ := h
      go_wp2_with fail
      clear hst hrun
      generalize w1.heap.size = sb at *
      generalize (w1.alloc (.cells (Try.zeroCells85.toList.set 256 (.slice (some ⟨w.heap.size, 0, none⟩) 0 2)).toArray 85)) = w2 at *
      have heq : ∀ a n c' w, (binOp .eql 25 (.slice a n c') (.slice none 0 0)).run Try.prog w = .ok (.bool a.isNone) w := fun a n c' w => Lib.run_eql_slice_nil w 25 5 a n c' 0 0 Try.underlying25
      have hcv : ∀ (s : ByteArray) w, (convert 9 25 (.string s)).run Try.prog w = .ok (.slice (some ⟨w.heap.size, 0, none⟩) s.size (grownCap w s.size 0 5)) (Lib.bytesWorld w 5 s) := fun s w => Lib.run_convert_string_bytes w 9 25 5 s Try.underlying9 Try.underlying25 Try.underlying5
      go_loopg [12] 2 (fun kq v12 wr => (kq = 2 ∧ v12 = .int .i64 2 ∧ Asd (Bld w wr sb w.heap.size g 0 s1 s2 s3 s4 ⟨#[]⟩ ⟨#[]⟩ (.slice none 0 0) (.slice none 0 0))) ∨
        (kq = 1 ∧ v12 = .int .i64 0 ∧ ∃ h c, Asd (Bld w wr sb w.heap.size g 1 s1 s2 s3 s4 s3 ⟨#[]⟩ (.slice (some ⟨h, 0, none⟩) 2 c) (.slice none 0 0)) ∧ Asd (RowB wr h s4 ∧ sb < h)) ∨
        (kq = 0 ∧ v12 = .int .i64 (-2) ∧ ∃ h c h' c', Asd (Bld w wr sb w.heap.size g 2 s1 s2 s3 s4 s3 s1 (.slice (some ⟨h, 0, none⟩) 2 c) (.slice (some ⟨h', 0, none⟩) 2 c')) ∧ Asd (RowB wr h s4) ∧ Asd (RowB wr h' s2)))
      case atStart => exact .inl ⟨rfl, rfl, BI⟩
      case round =>
        clear BI
        rcases hrel with ⟨rfl, rfl, HB⟩ | ⟨rfl, rfl, h, c1, HB, HR⟩ | ⟨rfl, rfl, h, c1, h', c2, HB, HR, HR2⟩
        · have g0 := HB.out.g2
          have g1 := HB.out.g3
          have k58 := HB.out.c58
          have kt := HB.out.ct
          have ht0 := HB.out.t0
          have ht1 := HB.out.t1
          have hsf := HB.out.sf
          have htf := HB.out.tf
          have q1 := HB.out.lg
          have q3 := HB.out.ls
          have q4 := HB.out.ll
          have HS := Asd.mk HB.out.bel.size
          generalize w.heap.size = tb at *
          have hb2 : tb < wr.heap.size := by omega
          have hb3 : g < wr.heap.size := by omega
          have n1 : tb ≠ sb := by omega
          have n2 : g ≠ sb := by omega
          have n3 : g ≠ tb := by omega
          have n4 : sb ≠ tb := by omega
          have n5 : sb ≠ g := by omega
          have n6 : tb ≠ g := by omega
          go_upto_region 34 with (fail)
          have H3 := Asd.mk ((((HB.out.put0 s3).setT 1).al (.cells #[.int .u8 58] 5)).al (.cells #[.string s3] 9))
          clear g0 g1 k58 kt ht0 ht1 hsf htf q1 q3 q4 hb2 hb3 HB
          generalize ((((wr.setCell ⟨tb, 0, none⟩ (.string s3)).setCell ⟨sb, 256, none⟩ (.slice (some ⟨tb, 0, none⟩) 1 2)).alloc (.cells #[.int .u8 58] 5)).alloc (.cells #[.string s3] 9)) = W3 at *
          have HN := Asd.mk (RowB.new W3 s4)
          have hl3 := H3.out.ll
          have H4 := Asd.mk (H3.out.by s4)
          have k4 := H4.out.c58
          have f4 := H4.out.sf
          go_wp2_with fail
          go_roundg 1
          case measure => omega
          case rel => exact .inr (.inl ⟨rfl, by first | rfl | go_num, W3.heap.size, _, ⟨H4.out.set58 _⟩, ⟨HN.out.fr (F := fun k => k = sb) ((Fr.refl (fun k => k = sb) _).setCell (F := fun k => k = sb) (p := ⟨sb, 58, none⟩) rfl _) (by omega), hl3⟩⟩)
        · have g0 := HB.out.g0
          have g1 := HB.out.g1
          have k58 := HB.out.c92
          have kt := HB.out.ct
          have ht0 := HB.out.t0
          have ht1 := HB.out.t1
          have hsf := HB.out.sf
          have htf := HB.out.tf
          have q1 := HB.out.lg
          have q3 := HB.out.ls
          have q4 := HB.out.ll
          have HS := Asd.mk HB.out.bel.size
          generalize w.heap.size = tb at *
          have hb2 : tb < wr.heap.size := by omega
          have hb3 : g < wr.heap.size := by omega
          have n1 : tb ≠ sb := by omega
          have n2 : g ≠ sb := by omega
          have n3 : g ≠ tb := by omega
          have n4 : sb ≠ tb := by omega
          have n5 : sb ≠ g := by omega
          have n6 : tb ≠ g := by omega
          go_upto_region 34 with (fail)
          have H3 := Asd.mk ((((HB.out.put1 s1).setT 2).al (.cells #[.int .u8 92] 5)).al (.cells #[.string s1] 9))
          have HR3 : Asd (RowB ((((wr.setCell ⟨tb, 1, none⟩ (.string s1)).setCell ⟨sb, 256, none⟩ (.slice (some ⟨tb, 0, none⟩) 2 2)).alloc (.cells #[.int .u8 92] 5)).alloc (.cells #[.string s1] 9)) h s4 ∧ sb < h) := ⟨HR.out.1.fr (F := fun k => k = tb ∨ k = sb) (((((Fr.refl (fun k => k = tb ∨ k = sb) wr).setCell (F := fun k => k = tb ∨ k = sb) (p := ⟨tb, 1, none⟩) (.inl rfl) (.string s1)).setCell (F := fun k => k = tb ∨ k = sb) (p := ⟨sb, 256, none⟩) (.inr rfl) (.slice (some ⟨tb, 0, none⟩) 2 2)).alloc (.cells #[.int .u8 92] 5)).alloc (.cells #[.string s1] 9)) (by have := HR.out.2; omega), HR.out.2⟩
          clear g0 g1 k58 kt ht0 ht1 hsf htf q1 q3 q4 hb2 hb3 HB
          generalize ((((wr.setCell ⟨tb, 1, none⟩ (.string s1)).setCell ⟨sb, 256, none⟩ (.slice (some ⟨tb, 0, none⟩) 2 2)).alloc (.cells #[.int .u8 92] 5)).alloc (.cells #[.string s1] 9)) = W3 at *
          have HN := Asd.mk (RowB.new W3 s2)
          have hl3 := H3.out.ll
          have H4 := Asd.mk (H3.out.by s2)
          have k4 := H4.out.c92
          have f4 := H4.out.sf
          go_wp2_with fail
          go_roundg 0
          case measure => omega
          case rel => exact .inr (.inr ⟨rfl, by first | rfl | go_num, h, c1, W3.heap.size, _, ⟨H4.out.set92 _⟩, ⟨(HR3.out.1.fr ((Fr.refl (fun k => k = sb) W3).bytes 5 s2) (by have := HR3.out.2; omega)).fr (F := fun k => k = sb) ((Fr.refl (fun k => k = sb) _).setCell (F := fun k => k = sb) (p := ⟨sb, 92, none⟩) rfl _) (by have := HR3.out.2; omega)⟩, ⟨HN.out.fr (F := fun k => k = sb) ((Fr.refl (fun k => k = sb) _).setCell (F := fun k => k = sb) (p := ⟨sb, 92, none⟩) rfl _) (by omega)⟩⟩)
        · go_wp2_with fail
          go_ret
          exact ⟨sb, rfl, FIN.out _ _ _ _ _ _ _ HB.out HR.out HR2.out⟩
end Go.Proofs.Ytbpkmgkdbgdmeaa
