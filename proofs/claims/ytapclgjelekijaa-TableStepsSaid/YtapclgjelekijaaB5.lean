import Derived.Test.YtapclgjelekijaaB4
/-! TableMany: the walk. -/
namespace Go.Proofs.Ytapclgjelekijaa
open Go.RowKit
set_option linter.unusedSimpArgs false
set_option linter.unusedVariables false

/-- A table of the call's own: what a round knows. -/
structure Own1 (w wr : World) (b room : Nat) (L : List (ByteArray × Int)) : Prop where
  tab : ∃ F, TabAt wr w.heap.size b room L F ∧ ∀ k, F k → w.heap.size ≤ k
  bel : Below w.heap.size w wr
theorem Own1.new {w w1 : World} {room b : Nat} {F : Nat → Prop} (hT : TabAt w1 w.heap.size b room [] F) (hF : ∀ k, F k → w.heap.size ≤ k) (hB : Below w.heap.size w w1) : Own1 w w1 b room [] := ⟨⟨F, hT, hF⟩, hB⟩
theorem Own1.below {w wr w' : World} {b room : Nat} {L : List (ByteArray × Int)} (H : Own1 w wr b room L) (hb : Below wr.heap.size wr w') : Own1 w w' b room L := by
  obtain ⟨⟨F, hT, hF⟩, hB⟩ := H
  exact ⟨⟨F, hT.below hb, hF⟩, hB.trans (hb.mono hB.size)⟩
theorem Own1.drewN {w wr : World} {b room : Nat} {L : List (ByteArray × Int)} (H : Own1 w wr b room L) (m : Nat) : Own1 w (wr.drewN m) b room L := H.below (belowN (Below.refl _ _) m)
theorem Own1.post {w wr w' : World} {b room : Nat} {L' : List (ByteArray × Int)} {F : Nat → Prop} {v : Value} {e : Ending} (hF : ∀ k, F k → w.heap.size ≤ k) (hB : Below w.heap.size w wr) (h : TabPost wr w.heap.size b room F v L' e w') : Own1 w w' b room L' := by
  obtain ⟨_, F', h1, h2, h3⟩ := h
  refine ⟨⟨F', h1, fun k hk => ?_⟩, hB.trans (h3.below_of hB.size hF)⟩
  rcases h2 k hk with h | h
  · exact hF k h
  · exact Nat.le_trans hB.size h
theorem Own1.put {w wr : World} {b room : Nat} {L L' : List (ByteArray × Int)} {bv : Bool} (H : Own1 w wr b room L) (key : ByteArray) (n : Int) (hks : key.size ≤ 140737488355328) (hp : putL room L key n = (L', bv)) :
    Calls Try.prog 15 #[.pointer (some ⟨b, 0, none⟩), .string key, .int .i64 n] wr fun e w' => e = .returned (.bool bv) ∧ Own1 w w' b room L' := by
  obtain ⟨⟨F, hT, hF⟩, hB⟩ := H
  have h := tput_calls wr w.heap.size b room L F hB.size hT key n hks
  rw [hp] at h
  exact h.mono fun e w' hx => ⟨hx.1, Own1.post hF hB hx⟩
theorem Own1.del {w wr : World} {b room : Nat} {L L' : List (ByteArray × Int)} {bv : Bool} (H : Own1 w wr b room L) (hL : ∀ q, q ∈ L → q.1.size ≤ 140737488355328) (key : ByteArray) (hks : key.size ≤ 140737488355328) (hp : without L key = L') (hb : (look L key).isSome = bv) :
    Calls Try.prog 16 #[.pointer (some ⟨b, 0, none⟩), .string key] wr fun e w' => e = .returned (.bool bv) ∧ Own1 w w' b room L' := by
  obtain ⟨⟨F, hT, hF⟩, hB⟩ := H
  have h := del_calls wr w.heap.size b room L F hB.size hT hL key hks
  rw [hp, hb] at h
  exact h.mono fun e w' hx => ⟨hx.1, Own1.post hF hB hx⟩
theorem Own1.peek {w wr : World} {b room : Nat} {L : List (ByteArray × Int)} (H : Own1 w wr b room L) (key : ByteArray) (hks : key.size ≤ 140737488355328) :
    Calls Try.prog 13 #[.pointer (some ⟨b, 0, none⟩), .string key] wr fun e w' => e = .returned (peekV L key) ∧ Own1 w w' b room L := by
  obtain ⟨⟨F, hT, hF⟩, hB⟩ := H
  refine (peek_calls wr w.heap.size b room L F hT key hks).mono ?_
  rintro e w' ⟨h1, m, rfl⟩
  exact ⟨h1, (Own1.mk ⟨F, hT, hF⟩ hB).drewN m⟩
theorem Own1.len {w wr : World} {b room : Nat} {L : List (ByteArray × Int)} (H : Own1 w wr b room L) :
    Calls Try.prog 20 #[.pointer (some ⟨b, 0, none⟩)] wr fun e w' => e = .returned (.int .i64 (L.length : Int)) ∧ Own1 w w' b room L := by
  obtain ⟨⟨F, hT, hF⟩, hB⟩ := H
  refine (len_calls wr w.heap.size b room L F hT).mono ?_
  rintro e w' ⟨h1, m, rfl⟩
  exact ⟨h1, (Own1.mk ⟨F, hT, hF⟩ hB).drewN m⟩

theorem nm_size (i : Nat) : (nm i).size ≤ 140737488355328 := by
  have := nm_data i
  have h : (nm i).data.toList.length = 3 := by rw [this]; rfl
  rw [Array.length_toList] at h
  show (nm i).data.size ≤ _
  omega
theorem pairs_size (S : List Nat) : ∀ q, q ∈ pairs S → q.1.size ≤ 140737488355328 := by
  intro q hq
  obtain ⟨i, _, rfl⟩ := List.mem_map.1 hq
  exact nm_size i

/-- Those that are left when each second one up to some has gone. -/
def lefts (m p k : Nat) : List Nat := (List.range m).filter fun i => ¬ (i % 2 = p ∧ i < k)
theorem lefts_lt {m p k : Nat} (hm : m ≤ 100) : ∀ i, i ∈ lefts m p k → i < 100 := by
  intro i hi
  unfold lefts at hi
  have := (List.mem_filter.1 hi).1
  rw [List.mem_range] at this
  omega
theorem lefts_mem {m p k i : Nat} : i ∈ lefts m p k ↔ i < m ∧ ¬ (i % 2 = p ∧ i < k) := by
  unfold lefts
  rw [List.mem_filter, List.mem_range]
  simp
  omega
theorem lefts_step {m p k : Nat} (hk : k % 2 = p) : (lefts m p k).filter (fun j => j ≠ k) = lefts m p (k + 2) := by
  unfold lefts
  rw [List.filter_filter]
  refine List.filter_congr fun a _ => ?_
  rw [Bool.eq_iff_iff]
  simp
  omega
theorem lefts_zero (m p : Nat) : lefts m p p = List.range m := by
  unfold lefts
  refine List.filter_eq_self.2 fun a _ => ?_
  simp
  omega

set_option maxHeartbeats 8000000 in
theorem many_calls (w : World) (n a : Nat) (hn : n < 256) (ha : a < 256) : Calls Try.prog 5 #[.int .u8 (n : Int), .int .u8 (a : Int)] w fun e w' => e = .returned (.bool true) ∧ Below w.heap.size w w' := by
  obtain ⟨m, hm⟩ : ∃ m, m = 1 + n % 100 := ⟨_, rfl⟩
  have hmi : 1 + (n : Int) % 100 = (m : Int) := by omega
  have hm1 : m ≤ 100 := by omega
  have hm0 : 1 ≤ m := by omega
  have HMI := Asd.mk hmi
  clear hm hmi
  go_enter Try.func5, Try.ntmps5
  go_upto_region 2 with (fail)
  rw [HMI.out]
  go_wp2_with fail
  refine (new_calls w w.heap.size (Nat.le_refl _) (m : Int) m (by omega)).mono ?_
  rintro e w1 ⟨b, F1, rfl, hT1, hF1, hB1⟩
  have O1 := Asd.mk (Own1.new hT1 hF1 hB1)
  clear hT1 hF1 hB1
  go_wp2_with fail
  go_loopg [7] m (fun kq v7 wr => ∃ k : Nat, v7 = .int .i64 (k : Int) ∧ Asd (kq + k = m) ∧ Asd (Own1 w wr b m (pairs (List.range k))))
  case atStart => exact ⟨0, rfl, ⟨by omega⟩, O1⟩
  case round =>
    clear O1
    obtain ⟨k, rfl, HK, HO⟩ := hrel
    have hk := HK.out
    cases gk with
    | succ k1 =>
      have hlt : k < m := by omega
      have hlt2 : decide (k < m) = true := decide_eq_true hlt
      clear hk
      go_wp2_with fail
      refine (name_calls wr k (by omega)).mono ?_
      rintro e w2 ⟨rfl, hb2⟩
      have HO2 := Asd.mk (HO.out.below hb2)
      clear hb2
      go_wp2_with fail
      refine (HO2.out.put (L' := pairs (List.range (k + 1))) (bv := true) (nm k) (k : Int) (nm_size k) (by
        rw [put_pairs (fun i hi => by rw [List.mem_range] at hi; omega) (by omega) (by simp) (by simpa using hlt), ← List.range_succ])).mono ?_
      rintro e w3 ⟨rfl, ho3⟩
      have HO3 := Asd.mk ho3
      clear ho3 HO2
      go_wp2_with fail
      go_roundg k1
      case measure => omega
      case rel => exact ⟨k + 1, by go_num, ⟨by have := HK.out; omega⟩, HO3⟩
    | zero =>
      obtain rfl : k = m := by omega
      clear hk
      have hlt2 : decide (k < k) = false := by simp
      go_wp2_with fail
      refine (HO.out.put (L' := pairs (List.range k)) (bv := false) kMore 1 (by decide) (put_more (by simp))).mono ?_
      rintro e w2 ⟨rfl, ho2⟩
      have HO2 := Asd.mk ho2
      clear ho2
      go_wp2_with fail
      refine HO2.out.len.mono ?_
      rintro e w3 ⟨rfl, ho3⟩
      have HO3 := Asd.mk ho3
      clear ho3 HO2 HO
      rw [show ((pairs (List.range k)).length : Int) = (k : Int) by simp [pairs]]
      go_upto_region 11 with (fail)
      clear hlt2
      obtain ⟨p, hp⟩ : ∃ p, p = a % 2 := ⟨_, rfl⟩
      have hpi : (a : Int) % 2 = (p : Int) := by omega
      rw [hpi]
      have HPI := Asd.mk (And.intro hpi hp)
      have hp2 : p < 2 := by omega
      clear hp hpi
      have HO4 : Asd (Own1 w w3 b k (pairs (lefts k p p))) := ⟨by rw [lefts_zero]; exact HO3.out⟩
      clear HO3
      go_loopg [8] k (fun kq v8 wr => ∃ x : Nat, v8 = .int .i64 (x : Int) ∧ Asd (k ≤ kq + x ∧ x % 2 = p ∧ x ≤ k + 1) ∧ Asd (Own1 w wr b k (pairs (lefts k p x))))
      case atStart => exact ⟨p, rfl, ⟨by omega, by omega, by omega⟩, HO4⟩
      case round =>
        clear HO4
        obtain ⟨x, rfl, HX, HO5⟩ := hrel
        have hx2 := HX.out.2.2
        by_cases hxk : x < k
        · have hxb : decide (x < k) = true := decide_eq_true hxk
          obtain ⟨g1, rfl⟩ : ∃ g, gk = g + 1 := ⟨gk - 1, by have := HX.out.1; omega⟩
          go_wp2_with fail
          refine (name_calls _ x (by omega)).mono ?_
          rintro e w5 ⟨rfl, hb5⟩
          have HO6 := Asd.mk (HO5.out.below hb5)
          clear hb5
          go_wp2_with fail
          refine (HO6.out.del (L' := pairs (lefts k p (x + 2))) (bv := true) (pairs_size _) (nm x) (nm_size x) (by rw [without_pairs (lefts_lt hm1) (by omega), lefts_step HX.out.2.1]) (by
            rw [look_pairs (lefts_lt hm1) (by omega), if_pos (by rw [lefts_mem]; omega)]; rfl)).mono ?_
          rintro e w6 ⟨rfl, ho6⟩
          have HO7 := Asd.mk ho6
          clear ho6 HO6
          go_wp2_with fail
          go_roundg g1
          case measure => omega
          case rel => exact ⟨x + 2, by go_num, ⟨by have := HX.out; omega⟩, HO7⟩
        · have hxb : decide (x < k) = false := decide_eq_false hxk
          go_upto_region 16 with (fail)
          have HO8 : Asd (∀ i : Nat, i < k → look (pairs (lefts k p x)) (nm i) = if i % 2 = p then none else some (i : Int)) := ⟨fun i hi => by
            rw [look_pairs (lefts_lt hm1) (by omega)]
            by_cases hip : i % 2 = p
            · rw [if_neg (by rw [lefts_mem]; omega), if_pos hip]
            · rw [if_pos (by rw [lefts_mem]; omega), if_neg hip]⟩
          generalize pairs (lefts k p x) = LL at HO5 HO8
          go_loopg [9] k (fun kq v9 wr => ∃ y : Nat, v9 = .int .i64 (y : Int) ∧ Asd (kq + y = k) ∧ Asd (Own1 w wr b k LL))
          case atStart => exact ⟨0, rfl, ⟨by omega⟩, HO5⟩
          case round =>
            clear HO5
            obtain ⟨y, rfl, HY, HO9⟩ := hrel
            cases gk with
            | zero =>
              obtain rfl : y = k := by have := HY.out; omega
              have hyb : decide (y < y) = false := by simp
              go_wp2_with fail
              refine (known_calls _).mono ?_
              rintro e w7 ⟨rfl, hb7⟩
              have HO10 := Asd.mk (HO9.out.below hb7)
              clear hb7
              go_wp2_with fail
              go_ret
              exact ⟨rfl, HO10.out.bel⟩
            | succ k1 =>
              have hyk : y < k := by have := HY.out; omega
              have hyb : decide (y < k) = true := decide_eq_true hyk
              go_wp2_with fail
              refine (name_calls _ y (by omega)).mono ?_
              rintro e w7 ⟨rfl, hb7⟩
              have HO10 := Asd.mk (HO9.out.below hb7)
              clear hb7
              go_wp2_with fail
              refine (HO10.out.peek (nm y) (nm_size y)).mono ?_
              rintro e w8 ⟨rfl, ho8⟩
              have HO11 := Asd.mk ho8
              clear ho8 HO10
              unfold peekV
              rw [HO8.out y hyk]
              have hpi := HPI.out
              by_cases hyp : y % 2 = p
              · rw [if_pos hyp]
                simp only [Option.getD_none, Option.isSome_none]
                have t1 : (((y : Int) % 2) != ((a : Int) % 2)) = false := by rw [bne_eq_false_iff_eq]; omega
                clear hpi hyp
                go_wp2_with fail
                go_roundg k1
                case measure => omega
                case rel => exact ⟨y + 1, by go_num, ⟨by have := HY.out; omega⟩, HO11⟩
              · rw [if_neg hyp]
                simp only [Option.getD_some, Option.isSome_some]
                have t1 : (((y : Int) % 2) != ((a : Int) % 2)) = true := by rw [bne_iff_ne]; omega
                clear hpi hyp
                go_wp2_with fail
                go_roundg k1
                case measure => omega
                case rel => exact ⟨y + 1, by go_num, ⟨by have := HY.out; omega⟩, HO11⟩
end Go.Proofs.Ytapclgjelekijaa
