import Derived.Test.YtapclgjelekijaaB3
import Derived.Laws.BytesArg
import Derived.Lib.ConvBytes
/-! TableMany: the names. -/
namespace Go.Proofs.Ytapclgjelekijaa
open Go.RowKit

def nm (i : Nat) : ByteArray := ⟨#[107]⟩ ++ ⟨#[48 + UInt8.ofNat (i / 10), 48 + UInt8.ofNat (i % 10)]⟩
theorem nm_data (i : Nat) : (nm i).data.toList = [107, 48 + UInt8.ofNat (i / 10), 48 + UInt8.ofNat (i % 10)] := by
  unfold nm
  rw [ByteArray.data_append]
  simp
theorem nm_inj {i j : Nat} (hi : i < 100) (hj : j < 100) (h : nm i = nm j) : i = j := by
  have h1 := congrArg (fun s : ByteArray => s.data.toList) h
  simp only [nm_data, List.cons.injEq, and_true, true_and] at h1
  obtain ⟨h2, h3⟩ := h1
  have h4 := congrArg UInt8.toNat h2
  have h5 := congrArg UInt8.toNat h3
  simp only [UInt8.toNat_add, UInt8.toNat_ofNat'] at h4 h5
  simp at h4 h5
  omega
def pairs (S : List Nat) : List (ByteArray × Int) := S.map fun i => (nm i, (i : Int))
theorem look_pairs {S : List Nat} (hS : ∀ i, i ∈ S → i < 100) {i : Nat} (hi : i < 100) : look (pairs S) (nm i) = if i ∈ S then some (i : Int) else none := by
  induction S with
  | nil => rfl
  | cons a S ih =>
    have ih := ih fun j hj => hS j (by simp [hj])
    unfold look pairs at ih ⊢
    rw [List.map_cons, List.find?_cons]
    by_cases ha : a = i
    · subst ha
      simp
    · have hne : ¬ nm a = nm i := fun e => ha (nm_inj (hS a (by simp)) hi e)
      simp only [hne, decide_false]
      rw [ih]
      have : (i ∈ a :: S) ↔ i ∈ S := by simp [Ne.symm ha]
      simp only [this]
theorem without_pairs {S : List Nat} (hS : ∀ i, i ∈ S → i < 100) {i : Nat} (hi : i < 100) : without (pairs S) (nm i) = pairs (S.filter fun j => j ≠ i) := by
  unfold without pairs
  rw [List.filter_map]
  congr 1
  refine List.filter_congr fun a ha => ?_
  have : nm a = nm i ↔ a = i := ⟨fun e => nm_inj (hS a ha) hi e, fun e => by rw [e]⟩
  simp [this]
def kMore : ByteArray := ⟨#[109, 111, 114, 101]⟩
theorem look_more (S : List Nat) : look (pairs S) kMore = none := by
  unfold look
  rw [Option.map_eq_none_iff, List.find?_eq_none]
  intro p hp
  obtain ⟨i, _, rfl⟩ := List.mem_map.1 hp
  simp only [decide_eq_true_eq]
  intro e
  have h1 := congrArg (fun s : ByteArray => s.data.toList) e
  rw [nm_data] at h1
  simp [kMore] at h1
theorem put_pairs {S : List Nat} (hS : ∀ i, i ∈ S → i < 100) {m i : Nat} (hi : i < 100) (hn : i ∉ S) (hl : S.length < m) : putL m (pairs S) (nm i) (i : Int) = (pairs (S ++ [i]), true) := by
  have h1 := look_pairs hS hi
  rw [if_neg hn] at h1
  unfold putL
  rw [h1, without_none h1]
  simp [pairs, hl]
theorem put_more {S : List Nat} {m : Nat} (hl : S.length = m) : putL m (pairs S) kMore 1 = (pairs S, false) := by
  unfold putL
  rw [look_more]
  simp [pairs, hl]
theorem name_calls (w : World) (i : Nat) (hi : i < 100) : Calls Try.prog 19 #[.int .i64 (i : Int)] w fun e w' => e = .returned (.string (nm i)) ∧ Below w.heap.size w w' := by
  have hrun := run_convert_bytes_arg (P := Try.prog) (w.alloc (.cells #[.int .u8 (48 + (i : Int) / 10), .int .u8 (48 + (i : Int) % 10)] 5)) 73 5 Try.underlying73 Try.underlying5 w.heap.size 0 2 2 [48 + (i : Int) / 10, 48 + (i : Int) % 10] rfl (fun j hj => by
    match j, hj with
    | 0, _ => exact cell_of_row _ _ 0 _ _ _ (heap_alloc_new _ _)
    | 1, _ => exact cell_of_row _ _ 1 _ _ _ (heap_alloc_new _ _)) 9 Try.underlying9
  have hs : strOfNums [48 + (i : Int) / 10, 48 + (i : Int) % 10] = ⟨#[UInt8.ofNat (48 + i / 10), UInt8.ofNat (48 + i % 10)]⟩ := by
    unfold strOfNums
    simp only [List.map_cons, List.map_nil]
    rw [show (48 + (i : Int) / 10).toNat = 48 + i / 10 by omega, show (48 + (i : Int) % 10).toNat = 48 + i % 10 by omega]
  rw [hs] at hrun
  clear hs
  go_enter Try.func19, Try.ntmps19
  go_wp2
  go_ret
  exact ⟨rfl, (Below.refl _ w).alloc (Nat.le_refl _) _⟩
end Go.Proofs.Ytapclgjelekijaa
