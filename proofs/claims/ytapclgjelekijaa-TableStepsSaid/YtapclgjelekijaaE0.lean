import Derived.Test.YtapclgjelekijaaD4
import Derived.Test.YtapclgjelekijaaPTableStepsx2
/-! What the reference computes, in the same lists. -/
namespace Go.Proofs.Ytapclgjelekijaa
open Go.RowKit Go.Proofs.YtapclgjelekijaaW.PrintWords Go.Proofs.YtapclgjelekijaaW.PrintLast Go.Proofs.YtapclgjelekijaaW.PrintMore
open PTableSteps
set_option linter.unusedSimpArgs false
set_option linter.unusedVariables false

def encL (L : List (ByteArray × Int)) : List S58 := L.map fun q => ⟨q.1, q.2⟩
theorem encL_length (L : List (ByteArray × Int)) : (encL L).length = L.length := List.length_map ..
theorem rd_encL {L : List (ByteArray × Int)} {i : Nat} {q : ByteArray × Int} (h : L[i]? = some q) : rd_T58 (encL L) (i : Int) = ⟨q.1, q.2⟩ := by
  unfold rd_T58 encL
  rw [Int.toNat_natCast, List.getD_eq_getElem?_getD, List.getElem?_map, h]
  rfl
theorem toList_iff {a b : ByteArray} : a.toList = b.toList ↔ a = b := ⟨fun e => ByteArray.ext (by simpa [ByteArray.toList_eq] using e), fun e => by rw [e]⟩
theorem wrap_succ {i : Nat} (h : i ≤ 10001) : wrap64 ((i : Int) + 1) = ((i + 1 : Nat) : Int) := by
  rw [IntWalk.wrap64_in _ (by omega)]
  omega
theorem drop_cons {α : Type} {L : List α} {i : Nat} (h : i < L.length) : ∃ q, L[i]? = some q ∧ L.drop i = q :: L.drop (i + 1) :=
  ⟨L[i], List.getElem?_eq_getElem h, List.drop_eq_getElem_cons h⟩
theorem look_cons (q : ByteArray × Int) (L : List (ByteArray × Int)) (key : ByteArray) : look (q :: L) key = if q.1 = key then some q.2 else look L key := by
  unfold look
  rw [List.find?_cons]
  by_cases h : q.1 = key
  · simp [h]
  · simp [h]

theorem peek_l0 (L : List (ByteArray × Int)) (hL : L.length ≤ 10000) (key : ByteArray) (a : Int) : ∀ k i, i ≤ L.length → L.length - i < k →
    tapsterref09_Peek.l0 k key (i : Int) a (encL L) = some ((look (L.drop i) key).getD 0, (look (L.drop i) key).isSome)
  | 0, i, h, hk => by omega
  | k + 1, i, h, hk => by
    unfold tapsterref09_Peek.l0
    rw [encL_length]
    by_cases hi : i < L.length
    · obtain ⟨q, hq, hd⟩ := drop_cons hi
      rw [if_pos (by omega), if_pos (by omega), rd_encL hq, hd, look_cons]
      simp only [toList_iff]
      by_cases he : q.1 = key
      · rw [if_pos he, if_pos he]
        rfl
      · rw [if_neg he, if_neg he, wrap_succ (by omega)]
        exact peek_l0 L hL key a k (i + 1) (by omega) (by omega)
    · rw [if_neg (by omega), List.drop_eq_nil_of_le (by omega)]
      rfl
theorem peek_f (L : List (ByteArray × Int)) (hL : L.length ≤ 10000) (key : ByteArray) (a : Int) : tapsterref09_Peek.f 20000 a (encL L) key = some ((look L key).getD 0, (look L key).isSome) := by
  have := peek_l0 L hL key a 20000 0 (by omega) (by omega)
  unfold tapsterref09_Peek.f
  simpa using this

theorem nextL_cons (q : ByteArray × Int) (L : List (ByteArray × Int)) (key : ByteArray) : nextL (q :: L) key = if q.1 = key then (L.head?).map (·.1) else nextL L key := rfl
theorem next_l0 (L : List (ByteArray × Int)) (hL : L.length ≤ 10000) (key : ByteArray) (a : Int) : ∀ k i, i ≤ L.length → L.length - i < k →
    tapsterref09_Next.l0 k key (i : Int) a (encL L) = some ((nextL (L.drop i) key).getD ⟨#[]⟩, (nextL (L.drop i) key).isSome)
  | 0, i, h, hk => by omega
  | k + 1, i, h, hk => by
    unfold tapsterref09_Next.l0
    rw [encL_length, wrap_succ (by omega)]
    by_cases hi : i + 1 < L.length
    · obtain ⟨q, hq, hd⟩ := drop_cons (show i < L.length by omega)
      obtain ⟨q2, hq2, hd2⟩ := drop_cons hi
      rw [if_pos (by omega), if_pos (by omega), if_pos (by omega), rd_encL hq, hd, nextL_cons]
      simp only [toList_iff]
      by_cases he : q.1 = key
      · rw [if_pos he, if_pos he, if_pos (by omega), rd_encL hq2, hd2]
        rfl
      · rw [if_neg he, if_neg he]
        exact next_l0 L hL key a k (i + 1) (by omega) (by omega)
    · rw [if_neg (by omega)]
      by_cases hi2 : i < L.length
      · obtain ⟨q, hq, hd⟩ := drop_cons hi2
        rw [hd, nextL_cons, List.drop_eq_nil_of_le (by omega)]
        split <;> rfl
      · rw [List.drop_eq_nil_of_le (by omega)]
        rfl
theorem next_f (L : List (ByteArray × Int)) (hL : L.length ≤ 10000) (key : ByteArray) (a : Int) : tapsterref09_Next.f 20000 a (encL L) key = some ((nextL L key).getD ⟨#[]⟩, (nextL L key).isSome) := by
  have := next_l0 L hL key a 20000 0 (by omega) (by omega)
  unfold tapsterref09_Next.f
  simpa using this

theorem keys_l0 (L : List (ByteArray × Int)) (hL : L.length ≤ 10000) (a : Int) : ∀ k i, i ≤ L.length → L.length - i < k →
    tapsterref09_Keys.l0 k ((L.take i).map (·.1)) (i : Int) a (encL L) = some (L.map (·.1))
  | 0, i, h, hk => by omega
  | k + 1, i, h, hk => by
    unfold tapsterref09_Keys.l0
    rw [encL_length]
    by_cases hi : i < L.length
    · obtain ⟨q, hq, _⟩ := drop_cons hi
      rw [if_pos (by omega), if_pos (by omega), if_pos (by rw [List.length_map, List.length_take]; omega), rd_encL hq, wrap_succ (by omega)]
      have : (L.take i).map (·.1) ++ [q.1] = (L.take (i + 1)).map (·.1) := by rw [List.take_add_one, hq]; simp
      rw [this]
      exact keys_l0 L hL a k (i + 1) (by omega) (by omega)
    · rw [if_neg (by omega), List.take_of_length_le (by omega)]
theorem keys_f (L : List (ByteArray × Int)) (hL : L.length ≤ 10000) (a : Int) : tapsterref09_Keys.f 20000 a (encL L) = some (L.map (·.1)) := by
  have := keys_l0 L hL a 20000 0 (by omega) (by omega)
  unfold tapsterref09_Keys.f
  simpa using this

theorem delete_l0 (L : List (ByteArray × Int)) (hL : L.length ≤ 10000) (key : ByteArray) (a : Int) : ∀ k i, i ≤ L.length → L.length - i < k →
    tapsterref09_Delete.l0 k key (i : Int) a (encL L) a (encL (without (L.take i) key)) = some (a, encL (without L key), decide (((without L key).length : Int) < (L.length : Int)))
  | 0, i, h, hk => by omega
  | k + 1, i, h, hk => by
    unfold tapsterref09_Delete.l0
    rw [encL_length]
    by_cases hi : i < L.length
    · obtain ⟨q, hq, _⟩ := drop_cons hi
      have hw : without (L.take (i + 1)) key = without (L.take i) key ++ (if q.1 = key then [] else [q]) := by
        rw [List.take_add_one, hq]
        unfold without
        rw [List.filter_append]
        by_cases he : q.1 = key <;> simp [he]
      have hl : (without (L.take i) key).length ≤ 10000 := by
        have h1 : (without (L.take i) key).length ≤ (L.take i).length := List.length_filter_le _ _
        rw [List.length_take] at h1
        omega
      rw [if_pos (by omega), if_pos (by omega), rd_encL hq, wrap_succ (by omega)]
      simp only [toList_iff]
      by_cases he : q.1 = key
      · rw [if_pos he]
        rw [if_pos he, List.append_nil] at hw
        rw [← hw]
        exact delete_l0 L hL key a k (i + 1) (by omega) (by omega)
      · rw [if_neg he, if_pos (by rw [encL_length]; omega)]
        rw [if_neg he] at hw
        have : encL (without (L.take i) key) ++ [(⟨q.1, q.2⟩ : S58)] = encL (without (L.take (i + 1)) key) := by rw [hw]; simp [encL]
        rw [this]
        exact delete_l0 L hL key a k (i + 1) (by omega) (by omega)
    · rw [if_neg (by omega), List.take_of_length_le (by omega), encL_length]
theorem without_lt (L : List (ByteArray × Int)) (key : ByteArray) : decide (((without L key).length : Int) < (L.length : Int)) = (look L key).isSome := by
  rw [Bool.eq_iff_iff, look_isSome, decide_eq_true_iff]
  constructor
  · intro h
    by_cases hk : key ∈ L.map (·.1)
    · exact hk
    · rw [without_absent hk] at h; omega
  · intro h
    have := without_length h
    omega
theorem delete_f (L : List (ByteArray × Int)) (hL : L.length ≤ 10000) (key : ByteArray) (a : Int) : tapsterref09_Delete.f 20000 a (encL L) key = some (a, encL (without L key), (look L key).isSome) := by
  have := delete_l0 L hL key a 20000 0 (by omega) (by omega)
  rw [without_lt] at this
  unfold tapsterref09_Delete.f
  simpa [without, encL] using this
theorem put_f (L : List (ByteArray × Int)) (room : Nat) (hL : L.length ≤ 10000) (key : ByteArray) (n : Int) : tapsterref09_Put.f 20000 (room : Int) (encL L) key n = some ((room : Int), encL (putL room L key n).1, (putL room L key n).2) := by
  have hl : (without L key).length ≤ 10000 := Nat.le_trans (List.length_filter_le _ _) hL
  have ha : encL (without L key) ++ [(⟨key, n⟩ : S58)] = encL (without L key ++ [(key, n)]) := by simp [encL]
  unfold tapsterref09_Put.f
  rw [delete_f L hL]
  simp only [Option.bind_some, encL_length, ha]
  unfold putL
  by_cases hs : (look L key).isSome = true
  · rw [hs]
    simp only [if_true, Bool.true_or]
    rw [if_pos (by omega)]
  · have hs' : (look L key).isSome = false := by simpa using hs
    rw [hs']
    simp only [Bool.false_or, Bool.false_eq_true, if_false, decide_eq_true_eq]
    by_cases hr : L.length < room
    · rw [if_neg (by omega), if_pos (by omega), if_pos hr]
    · rw [if_pos (by omega), if_neg hr]
theorem get_f (L : List (ByteArray × Int)) (room : Nat) (hL : L.length ≤ 10000) (key : ByteArray) : tapsterref09_Get.f 20000 (room : Int) (encL L) key = some ((room : Int), encL (getL L key), (look L key).getD 0, (look L key).isSome) := by
  unfold tapsterref09_Get.f
  rw [peek_f L hL]
  simp only [Option.bind_some]
  unfold getL
  rcases h : look L key with _ | n
  · simp
  · simp only [Option.isSome_some, if_true, Option.getD_some]
    rw [put_f L room hL]
    simp only [Option.bind_some]
    unfold putL
    rw [h]
    simp
theorem step_f (L : List (ByteArray × Int)) (room : Nat) (hL : L.length ≤ 10000) (d : Act3) : tapsterref09_Step.f 20000 (room : Int) (encL L) d.kind d.key d.n = some ((room : Int), encL (doL room L d).1, (doL room L d).2.1, (doL room L d).2.2) := by
  unfold tapsterref09_Step.f doL
  split
  · rw [put_f L room hL]
    rfl
  · split
    · rw [get_f L room hL]
      rfl
    · split
      · rw [delete_f L hL]
        rfl
      · rfl
theorem new_f (n : Int) (room : Nat) (hn : (room : Int) = max 0 (min n 10000)) : tapsterref09_New.f n = some ((room : Int), encL []) := by
  unfold tapsterref09_New.f mx mn
  rw [hn]
  simp only [Option.some.injEq, Prod.mk.injEq]
  refine ⟨?_, rfl⟩
  split <;> split <;> omega
end Go.Proofs.Ytapclgjelekijaa
