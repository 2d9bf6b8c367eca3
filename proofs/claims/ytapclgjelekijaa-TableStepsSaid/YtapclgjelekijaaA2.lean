import Derived.Test.YtapclgjelekijaaA1
import Derived.Deep.LoopGhost
import Derived.Laws.Bits64
/-! The table's ring: the hash, the way to a key, its place. -/
namespace Go.Proofs.Ytapclgjelekijaa
open Go.RowKit

theorem take_snoc (s : ByteArray) (k : Nat) (h : k < s.size) : s.data.toList.take (k + 1) = s.data.toList.take k ++ [s[k]] := by
  rw [List.take_succ_eq_append_getElem (by simpa using h)]; rfl
theorem fnv_step (h c : Nat) (hh : h < 18446744073709551616) (hc : c < 256) :
    IntKind.u64.wrap (bits .xor .u64 (h : Int) (IntKind.u64.wrap (c : Int)) * 1099511628211) = ((fnv h c : Nat) : Int) := by
  have h1 : IntKind.u64.wrap (c : Int) = (c : Int) := by rw [IntKind.wrap_u64]; omega
  rw [h1, bits_xor_u64_nat h c hh (by omega), IntKind.wrap_u64]
  unfold fnv
  omega
theorem ret_u64 {a b : Int} (h : a = b) : Ending.returned (.int .u64 a) = .returned (.int .u64 b) := by rw [h]

set_option maxHeartbeats 2000000 in
theorem sum_calls (s : ByteArray) (w : World) (hs : s.size ≤ 140737488355328) : Calls Try.prog 41 #[.string s] w fun e w' => e = .returned (.int .u64 (hsum s : Nat)) ∧ w' = w := by
  go_enter Try.func41, Try.ntmps41
  go_wp2
  go_loop [3, 4, 7] (fun h _ i => ∃ k : Nat, k ≤ s.size ∧ i = .int .i64 (k : Int) ∧ h = .int .u64 ((hsumL (s.data.toList.take k) : Nat) : Int)) (fun _ _ i => s.size - (intOf i).toNat)
  case atStart => exact ⟨0, Nat.zero_le _, rfl, rfl⟩
  case round =>
    obtain ⟨k, hk, rfl, rfl⟩ := hrel
    by_cases hlt : k < s.size
    · have HS := Asd.mk (fnv_step (hsumL (s.data.toList.take k)) s[k].toNat (hsumL_lt _) (by have := s[k].toNat_lt; omega))
      have HT := Asd.mk (take_snoc s k hlt)
      go_wp2
      refine ⟨⟨k + 1, by omega, by go_num, ?_⟩, by simp [intOf]; omega⟩
      rw [HS.out, HT.out, hsumL_snoc]
    · go_wp2
      go_ret
      exact ⟨ret_u64 (by rw [List.take_of_length_le (by simp; omega)]; rfl), rfl⟩

theorem own_any {w : World} {base : Nat} {e : TypeId} {size : Nat} {v : Value} {n : Nat} {xs : List Value} (h : w.ownsRow base e size v n xs) : ∃ A c, v = .slice A n c := by
  rcases h.2 with ⟨h, h0⟩ | ⟨g, cap, cur, h, _⟩
  · rw [h0]; exact ⟨_, _, h⟩
  · exact ⟨_, _, h⟩
theorem RingAt.way {w : World} {lo b : Nat} {R : Ring} {sv fv : Value} {g n c : Nat} (H : RingAt w lo b R sv fv (.slice (some ⟨g, 0, none⟩) n c)) {p x : Nat} (hp : R.ways[p]? = some x) : w.cell? ⟨g, p, none⟩ = some (.int .i64 (x : Int)) := by
  have hpl := (List.getElem?_eq_some_iff.1 hp).1
  have h0 := H.y
  obtain ⟨_, _, he, _⟩ := own_form h0 (by omega)
  injection he with _ hn _
  subst hn
  rw [h0.cellAt p (by omega), nats_get, hp]
  rfl

set_option maxHeartbeats 4000000 in
theorem at_calls0 (w : World) (lo b : Nat) (R : Ring) (sv fv : Value) (g c : Nat) (H : RingAt w lo b R sv fv (.slice (some ⟨g, 0, none⟩) R.ways.length c)) (hsl : ∀ p k : Nat, R.ways[p]? = some (k + 1) → k < R.slots.length)
    (hn : R.slots.length ≤ 100000) (hw : R.ways.length ≤ 100000) (hw0 : 0 < R.ways.length) (key : ByteArray) (hks : key.size ≤ 140737488355328) (f p : Nat) (hp : probe R.ways R.key key f (hsum key % R.ways.length) = some p) :
    Calls Try.prog 37 #[.pointer (some ⟨b, 0, none⟩), .string key] w fun e w' => e = .returned (.int .i64 (p : Int)) ∧ ∃ m, w' = w.drewN m := by
  obtain ⟨A, cs, hsv⟩ := own_any H.s
  have h1 : w.cell? ⟨b, 1, none⟩ = some (.slice A R.slots.length cs) := by rw [← hsv]; exact H.cell 1
  have h3 : w.cell? ⟨b, 3, none⟩ = some (.slice (some ⟨g, 0, none⟩) R.ways.length c) := H.cell 3
  clear hsv
  have HP := Asd.mk hp
  have HSL := Asd.mk hsl
  clear hp hsl
  go_enter Try.func37, Try.ntmps37
  go_wp2
  go_step3
  go_wp2
  go_quiet ((go_at_call 41; exact Calls.quiet_of_same (sum_calls _ _ hks)))
  go_wp2
  go_step3
  go_wp2
  go_loopg [5] f (fun kq v5 w' => ∃ i : Nat, v5 = .int .i64 (i : Int) ∧ Asd (probe R.ways R.key key kq i = some p) ∧ Asd (i < R.ways.length) ∧ w' = w.drewN nq)
  case atStart => exact ⟨hsum key % R.ways.length, by (rw [Value.int.injEq]; refine ⟨rfl, ?_⟩; unfold wrap64; have := Nat.mod_lt (hsum key) hw0; omega), HP, ⟨Nat.mod_lt _ hw0⟩, rfl⟩
  case round =>
    obtain ⟨i, rfl, HA, HI, rfl⟩ := hrel
    cases gk with
    | zero => exact absurd HA.out (by simp [probe])
    | succ k1 =>
      have hi := HI.out
      obtain ⟨x, hx⟩ : ∃ x, R.ways[i]? = some x := ⟨_, List.getElem?_eq_getElem hi⟩
      have c1 := H.way hx
      have hp := HA.out
      unfold probe at hp
      rw [hx] at hp
      cases x with
      | zero =>
        simp only [Option.some.injEq] at hp
        subst hp
        clear HA hx
        replace c1 : w.cell? ⟨g, i, none⟩ = some (.int .i64 0) := c1
        go_wp2
        try rw [Exit.noGoto_ret]
        go_ret
        exact ⟨rfl, _, rfl⟩
      | succ j =>
        simp only at hp
        have hj := HSL.out i j hx
        obtain ⟨s, hs⟩ : ∃ s, R.slots[j]? = some s := ⟨_, List.getElem?_eq_getElem hj⟩
        obtain ⟨g2, c2, he⟩ := H.form (by omega)
        have hkey : R.key j = s.key := by unfold Ring.key; rw [hs]; rfl
        rw [hkey] at hp
        subst he
        have h1' : w.cell? ⟨b, 1, none⟩ = some (.slice (some ⟨g2, 0, none⟩) R.slots.length c2) := H.cell 1
        rw [h1] at h1'
        injection h1' with h1'
        injection h1' with hA _ hcs
        subst hA hcs
        obtain ⟨d0, _, _, _⟩ := H.slot hs
        have hjb : (((j : Int) + 1) == 0) = false := by rw [beq_eq_false_iff_ne]; omega
        replace c1 : w.cell? ⟨g, i, none⟩ = some (.int .i64 ((j : Int) + 1)) := c1
        clear HA hx hs hkey
        by_cases hk : s.key = key
        · rw [if_pos hk] at hp
          injection hp with hp
          subst hp
          have hkb : (s.key.toList == key.toList) = true := by rw [hk]; simp
          clear hk
          go_wp2
          try rw [Exit.noGoto_ret]
          go_ret
          exact ⟨rfl, _, rfl⟩
        · rw [if_neg hk] at hp
          have hkb : (s.key.toList == key.toList) = false := by
            rw [beq_eq_false_iff_ne]
            intro e
            exact hk (ByteArray.ext (by simpa [ByteArray.toList_eq] using e))
          have HP2 := Asd.mk hp
          clear hk hp
          go_wp2
          go_roundg k1
          case measure => omega
          case rel => exact ⟨(i + 1) % R.ways.length, by (rw [Value.int.injEq]; refine ⟨rfl, ?_⟩; rw [Int.natCast_emod]; rfl), HP2, ⟨Nat.mod_lt _ hw0⟩, rfl⟩

theorem at_calls (w : World) (lo b : Nat) (R : Ring) (sv fv wv : Value) (H : RingAt w lo b R sv fv wv) (hsl : ∀ p k : Nat, R.ways[p]? = some (k + 1) → k < R.slots.length)
    (hn : R.slots.length ≤ 100000) (hw : R.ways.length ≤ 100000) (hw0 : 0 < R.ways.length) (key : ByteArray) (hks : key.size ≤ 140737488355328) (f p : Nat) (hp : probe R.ways R.key key f (hsum key % R.ways.length) = some p) :
    Calls Try.prog 37 #[.pointer (some ⟨b, 0, none⟩), .string key] w fun e w' => e = .returned (.int .i64 (p : Int)) ∧ ∃ m, w' = w.drewN m := by
  obtain ⟨g, c, rfl, _⟩ := own_form H.y hw0
  exact at_calls0 w lo b R sv fv g c H hsl hn hw hw0 key hks f p hp

set_option maxHeartbeats 4000000 in
theorem find_calls0 (w : World) (lo b : Nat) (R : Ring) (sv fv : Value) (g c : Nat) (H : RingAt w lo b R sv fv (.slice (some ⟨g, 0, none⟩) R.ways.length c)) (hsl : ∀ p k : Nat, R.ways[p]? = some (k + 1) → k < R.slots.length)
    (hn : R.slots.length ≤ 100000) (hw : R.ways.length ≤ 100000) (hw0 : 0 < R.ways.length) (key : ByteArray) (hks : key.size ≤ 140737488355328) (f p x : Nat) (hp : probe R.ways R.key key f (hsum key % R.ways.length) = some p) (hpx : R.ways[p]? = some x) (hx : x ≤ 100000) :
    Calls Try.prog 28 #[.pointer (some ⟨b, 0, none⟩), .string key] w fun e w' => e = .returned (.int .i64 ((x : Int) - 1)) ∧ ∃ m, w' = w.drewN m := by
  have h3 : w.cell? ⟨b, 3, none⟩ = some (.slice (some ⟨g, 0, none⟩) R.ways.length c) := H.cell 3
  have hpl : p < R.ways.length := (List.getElem?_eq_some_iff.1 hpx).1
  have c1 := H.way hpx
  have HP := Asd.mk hp
  have HSL := Asd.mk hsl
  clear hp hsl hpx
  go_enter Try.func28, Try.ntmps28
  go_wp2
  go_quiet ((go_at_call 37; exact Calls.quiet_of (at_calls _ lo b R sv fv _ (H.drewN _) HSL.out hn hw hw0 key hks f p HP.out)))
  go_wp2
  go_ret
  exact ⟨rfl, _, rfl⟩

theorem Rep.ways_lt {R : Ring} {o : List Nat} (P : Rep R o) (p k : Nat) (h : R.ways[p]? = some (k + 1)) : k < R.slots.length := P.lnk.lt k (P.wy.mem p k h)
theorem Rep.slots_le {R : Ring} {o : List Nat} (P : Rep R o) : R.slots.length ≤ 100000 := by have := P.cap; have := P.room; omega
theorem Rep.ways_le {R : Ring} {o : List Nat} (P : Rep R o) : R.ways.length ≤ 100000 ∧ 0 < R.ways.length := by have := P.len; have := P.room; omega

theorem find_found {w : World} {lo b : Nat} {R : Ring} {sv fv wv : Value} {o : List Nat} (H : RingAt w lo b R sv fv wv) (P : Rep R o) {k : Nat} (hk : k ∈ o) {key : ByteArray} (hkey : R.key k = key) (hks : key.size ≤ 140737488355328) :
    Calls Try.prog 28 #[.pointer (some ⟨b, 0, none⟩), .string key] w fun e w' => e = .returned (.int .i64 (k : Int)) ∧ ∃ m, w' = w.drewN m := by
  subst hkey
  obtain ⟨p, _, h1, h2⟩ := P.found hk
  obtain ⟨g, c, rfl, _⟩ := own_form H.y P.ways_le.2
  have := P.lnk.lt k hk
  have := P.slots_le
  refine (find_calls0 w lo b R sv fv g c H P.ways_lt P.slots_le P.ways_le.1 P.ways_le.2 _ hks _ p (k + 1) h2 h1 (by omega)).mono ?_
  rintro e w' ⟨rfl, h⟩
  exact ⟨by rw [show (((k + 1 : Nat) : Int) - 1) = (k : Int) by omega], h⟩
theorem find_absent {w : World} {lo b : Nat} {R : Ring} {sv fv wv : Value} {o : List Nat} (H : RingAt w lo b R sv fv wv) (P : Rep R o) {key : ByteArray} (hk : ∀ a, a ∈ o → R.key a ≠ key) (hks : key.size ≤ 140737488355328) :
    Calls Try.prog 28 #[.pointer (some ⟨b, 0, none⟩), .string key] w fun e w' => e = .returned (.int .i64 (-1)) ∧ ∃ m, w' = w.drewN m := by
  obtain ⟨d, hd, h0, hb, h2⟩ := P.absent hk
  obtain ⟨g, c, rfl, _⟩ := own_form H.y P.ways_le.2
  refine (find_calls0 w lo b R sv fv g c H P.ways_lt P.slots_le P.ways_le.1 P.ways_le.2 _ hks _ _ 0 h2 h0 (by omega)).mono ?_
  rintro e w' ⟨rfl, h⟩
  exact ⟨rfl, h⟩
end Go.Proofs.Ytapclgjelekijaa
