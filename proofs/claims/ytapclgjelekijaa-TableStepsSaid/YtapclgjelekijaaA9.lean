import Derived.Test.YtapclgjelekijaaA8
import Derived.BigRegion
/-! The table's methods: Oldest, Next, New. -/
namespace Go.Proofs.Ytapclgjelekijaa
open Go.RowKit

theorem belowN {B : Nat} {w W : World} (h : Below B w W) (n : Nat) : Below B w (W.drewN n) := ⟨h.os, h.tape, h.output, h.size, h.block⟩

def oldV : List (ByteArray × Int) → Value
  | [] => .tuple #[.string ⟨#[]⟩, .int .i64 0, .bool false]
  | p :: _ => .tuple #[.string p.1, .int .i64 p.2, .bool true]
def nextL : List (ByteArray × Int) → ByteArray → Option ByteArray
  | [], _ => none
  | p :: r, key => if p.1 = key then (r.head?).map (·.1) else nextL r key
def nextV : Option ByteArray → Value
  | none => .tuple #[.string ⟨#[]⟩, .bool false]
  | some k => .tuple #[.string k, .bool true]

theorem nextL_at {R : Ring} {o : List Nat} (P : Rep R o) {k : Nat} (l1 l2 : List Nat) (ho : o = l1 ++ k :: l2) : nextL (Lst R o) (R.key k) = (l2.head?).map R.key := by
  have hk : k ∈ o := by rw [ho]; simp
  have hgen : ∀ l : List Nat, (∀ a, a ∈ l → a ∈ o ∧ a ≠ k) → nextL ((l ++ k :: l2).map fun k => (R.key k, R.val k)) (R.key k) = (l2.head?).map R.key := by
    intro l
    induction l with
    | nil =>
      intro _
      simp only [List.nil_append, List.map_cons, nextL, if_pos]
      cases l2 <;> rfl
    | cons a l ih =>
      intro h
      obtain ⟨ha, hak⟩ := h a (by simp)
      simp only [List.cons_append, List.map_cons, nextL]
      rw [if_neg (fun e => hak (P.wy.keys a k ha hk e))]
      exact ih fun b hb => h b (by simp [hb])
  have := hgen l1 fun a ha => ⟨by rw [ho]; simp [ha], fun e => by
    have hnd := P.lnk.nd
    rw [ho, List.nodup_append] at hnd
    exact hnd.2.2 a ha k (by simp) e⟩
  rw [← ho] at this
  exact this
theorem nextL_none {R : Ring} {o : List Nat} {key : ByteArray} (h : ∀ a, a ∈ o → R.key a ≠ key) : nextL (Lst R o) key = none := by
  unfold Lst
  induction o with
  | nil => rfl
  | cons a o ih =>
    simp only [List.map_cons, nextL]
    rw [if_neg (h a (by simp))]
    exact ih fun b hb => h b (by simp [hb])

set_option maxHeartbeats 4000000 in
theorem oldest_calls (w : World) (lo b room : Nat) (L : List (ByteArray × Int)) (F : Nat → Prop) (H : TabAt w lo b room L F) :
    Calls Try.prog 22 #[.pointer (some ⟨b, 0, none⟩)] w fun e w' => e = .returned (oldV L) ∧ Below w.heap.size w w' := by
  have HT := H
  obtain ⟨R, o, sv, fv, wv, H, P, rfl, rfl, hF⟩ := H
  have hlen := Asd.mk (len_calls w lo b R.room (Lst R o) F HT)
  cases ho : o with
  | nil =>
    have hz : ((Lst R o).length : Int) = 0 := by rw [ho]; rfl
    rw [hz] at hlen
    clear ho hz
    show Calls Try.prog 22 _ w fun e w' => e = .returned (.tuple #[.string ⟨#[]⟩, .int .i64 0, .bool false]) ∧ _
    go_enter Try.func22, Try.ntmps22
    go_wp2_with fail
    refine hlen.out.mono ?_
    rintro e w' ⟨rfl, m0, rfl⟩
    go_wp2_with fail
    go_ret3
    exact ⟨rfl, belowN (Below.refl _ _) m0⟩
  | cons k r =>
    have hk : k ∈ o := by rw [ho]; simp
    have hkl := P.lnk.lt k hk
    have hsl := P.slots_le
    obtain ⟨g, c, rfl⟩ := H.form (by omega)
    obtain ⟨s0, hs0⟩ : ∃ s, R.slots[k]? = some s := ⟨_, List.getElem?_eq_getElem hkl⟩
    have hv : R.val k = s0.v := by unfold Ring.val; rw [hs0]; rfl
    have hkey : R.key k = s0.key := by unfold Ring.key; rw [hs0]; rfl
    have hfst : R.first = some k := by rw [P.lnk.fst, ho]; rfl
    show Calls Try.prog 22 _ w fun e w' => e = .returned (.tuple #[.string (R.key k), .int .i64 (R.val k), .bool true]) ∧ _
    rw [hv, hkey]
    have hnz : (((Lst R o).length : Int) == 0) = false := by rw [beq_eq_false_iff_ne, Lst_length, ho]; simp; omega
    generalize ((Lst R o).length : Int) = n at hlen hnz
    have HS := Asd.mk hs0
    have HFS := Asd.mk hfst
    clear hs0 hv hkey ho hfst
    go_enter Try.func22, Try.ntmps22
    go_wp2_with fail
    refine hlen.out.mono ?_
    rintro e w' ⟨rfl, m0, rfl⟩
    have H1 := H.drewN m0
    have B1 := Asd.mk (belowN (Below.refl w.heap.size w) m0)
    generalize w.drewN m0 = w1 at *
    have h1 : w1.cell? ⟨b, 1, none⟩ = some (.slice (some ⟨g, 0, none⟩) R.slots.length c) := H1.cell 1
    have h4 : w1.cell? ⟨b, 4, none⟩ = some (.int .i64 (k : Int)) := by have := H1.cell 4; rw [HFS.out] at this; exact this
    obtain ⟨d0, d1, d2, d3⟩ := H1.slot HS.out
    have hb1 : b < w1.heap.size := (H1.foot_lt b (.inl rfl)).2
    have hg1 : g < w1.heap.size := (H1.foot_lt g (.inr (.inl rfl))).2
    go_upto_region 3 with (fail)
    go_region
    go_upto_region 4 with (fail)
    go_region
    go_wp2_with fail
    go_ret3
    exact ⟨rfl, (B1.out.alloc B1.out.size _).drew.drew⟩

set_option maxHeartbeats 4000000 in
theorem next_calls (w : World) (lo b room : Nat) (L : List (ByteArray × Int)) (F : Nat → Prop) (H : TabAt w lo b room L F) (key : ByteArray) (hks : key.size ≤ 140737488355328) :
    Calls Try.prog 21 #[.pointer (some ⟨b, 0, none⟩), .string key] w fun e w' => e = .returned (nextV (nextL L key)) ∧ ∃ m, w' = w.drewN m := by
  have HT := H
  obtain ⟨R, o, sv, fv, wv, H, P, rfl, rfl, hF⟩ := H
  have hpk := peek_calls w lo b R.room (Lst R o) F HT key hks
  unfold peekV at hpk
  rcases look_cases P key with ⟨k, hk, hkey, hl⟩ | ⟨habs, hl⟩
  · rw [hl] at hpk
    simp only [Option.getD_some, Option.isSome_some] at hpk
    have HPK := Asd.mk hpk
    clear hpk
    obtain ⟨l1, l2, _, ho, _⟩ := List.exists_erase_eq hk
    have hnx := nextL_at P l1 l2 ho
    rw [hkey] at hnx
    rw [hnx]
    have hkl := P.lnk.lt k hk
    have hsl := P.slots_le
    obtain ⟨g, c, rfl⟩ := H.form (by omega)
    obtain ⟨s0, hs0⟩ : ∃ s, R.slots[k]? = some s := ⟨_, List.getElem?_eq_getElem hkl⟩
    obtain ⟨_, hnext⟩ := P.lnk.at_ l1 k l2 s0 ho hs0
    have hq : ∀ q, l2.head? = some q → q < R.slots.length := fun q hq => P.lnk.lt q (by rw [ho]; exact List.mem_append_right _ (List.mem_cons_of_mem _ (head?_mem hq)))
    have HS := Asd.mk hs0
    have HK := Asd.mk hkey
    have HNX := Asd.mk hnext
    clear hs0 hnext hkey hl hnx ho
    cases hh : l2.head? with
    | none =>
      rw [hh] at HNX
      clear hh hq
      show Calls Try.prog 21 _ w fun e w' => e = .returned (.tuple #[.string ⟨#[]⟩, .bool false]) ∧ _
      go_enter Try.func21, Try.ntmps21
      go_wp2_with fail
      refine HPK.out.mono ?_
      rintro e w' ⟨rfl, m0, rfl⟩
      have H1 := H.drewN m0
      generalize hw1 : w.drewN m0 = w1 at *
      have HW1 := Asd.mk hw1
      clear hw1
      have h1 : w1.cell? ⟨b, 1, none⟩ = some (.slice (some ⟨g, 0, none⟩) R.slots.length c) := H1.cell 1
      obtain ⟨_, _, _, d3⟩ := H1.slot HS.out
      rw [HNX.out] at d3
      replace d3 : w1.cell? ⟨g, k * 4 + 3, none⟩ = some (.int .i64 (-1)) := d3
      go_upto_region 2 with (fail)
      go_quiet ((go_at_call 28; exact Calls.quiet_of (find_found (H1.drewN _) P hk HK.out hks)))
      go_wp2_with fail
      go_ret2
      refine ⟨rfl, ?_⟩
      rw [← HW1.out]
      exact ⟨_, World.drewN_drewN ..⟩
    | some q =>
      rw [hh] at HNX
      have hql := hq q hh
      clear hh hq
      obtain ⟨sq, hsq⟩ : ∃ s, R.slots[q]? = some s := ⟨_, List.getElem?_eq_getElem hql⟩
      have hkq : R.key q = sq.key := by unfold Ring.key; rw [hsq]; rfl
      show Calls Try.prog 21 _ w fun e w' => e = .returned (.tuple #[.string (R.key q), .bool true]) ∧ _
      rw [hkq]
      have HSQ := Asd.mk hsq
      clear hsq hkq
      have hqb : ((q : Int) == -1) = false := by rw [beq_eq_false_iff_ne]; omega
      go_enter Try.func21, Try.ntmps21
      go_wp2_with fail
      refine HPK.out.mono ?_
      rintro e w' ⟨rfl, m0, rfl⟩
      have H1 := H.drewN m0
      generalize hw1 : w.drewN m0 = w1 at *
      have HW1 := Asd.mk hw1
      clear hw1
      have h1 : w1.cell? ⟨b, 1, none⟩ = some (.slice (some ⟨g, 0, none⟩) R.slots.length c) := H1.cell 1
      obtain ⟨_, _, _, d3⟩ := H1.slot HS.out
      rw [HNX.out] at d3
      replace d3 : w1.cell? ⟨g, k * 4 + 3, none⟩ = some (.int .i64 (q : Int)) := d3
      obtain ⟨e0, _, _, _⟩ := H1.slot HSQ.out
      go_upto_region 2 with (fail)
      go_quiet ((go_at_call 28; exact Calls.quiet_of (find_found (H1.drewN _) P hk HK.out hks)))
      go_upto_region 4 with (fail)
      go_quiet ((go_at_call 28; exact quiet_add (find_found (H1.drewN _) P hk HK.out hks)))
      go_wp2_with fail
      go_ret2
      refine ⟨rfl, ?_⟩
      rw [← HW1.out, World.drewN_drewN]
      exact ⟨_, World.drewN_drewN ..⟩
  · rw [hl] at hpk
    simp only [Option.getD_none, Option.isSome_none] at hpk
    rw [nextL_none habs]
    have HPK := Asd.mk hpk
    clear hpk hl
    show Calls Try.prog 21 _ w fun e w' => e = .returned (.tuple #[.string ⟨#[]⟩, .bool false]) ∧ _
    go_enter Try.func21, Try.ntmps21
    go_wp2_with fail
    refine HPK.out.mono ?_
    rintro e w' ⟨rfl, m0, rfl⟩
    go_upto_region 2 with (fail)
    go_quiet (fail)
    go_wp2_with fail
    go_ret2
    exact ⟨rfl, _, World.drewN_drewN ..⟩

/-- A fresh table: its ring, and its list. -/
def freshRing (room : Nat) : Ring := ⟨room, [], [], List.replicate (2 * room + 1) 0, none, none⟩
theorem fresh_rep {room : Nat} (h : room ≤ 10000) : Rep (freshRing room) [] :=
  ⟨by simp [freshRing], by simp [freshRing], h, ⟨List.nodup_nil, fun _ h => by simp at h, rfl, rfl, fun l1 k l2 s h => by simp at h⟩, List.nodup_nil, fun _ h => by simp [freshRing] at h, fun _ h => by simp at h, rfl,
   ⟨fun _ _ h => by simp at h, fun p k h => by
      have h : (List.replicate (2 * room + 1) 0)[p]? = some (k + 1) := h
      rw [List.getElem?_replicate] at h
      split at h <;> simp at h, fun _ h => by simp at h, fun p q k h _ => by
      have h : (List.replicate (2 * room + 1) 0)[p]? = some (k + 1) := h
      rw [List.getElem?_replicate] at h
      split at h <;> simp at h, fun p k h => by
      have h : (List.replicate (2 * room + 1) 0)[p]? = some (k + 1) := h
      rw [List.getElem?_replicate] at h
      split at h <;> simp at h⟩⟩

def NewPost (w : World) (lo room : Nat) (e : Ending) (w' : World) : Prop :=
  ∃ b F, e = .returned (.pointer (some ⟨b, 0, none⟩)) ∧ TabAt w' lo b room [] F ∧ (∀ k, F k → w.heap.size ≤ k) ∧ Below w.heap.size w w'

theorem fresh_at {w w1 : World} {lo : Nat} (hlo : lo ≤ w.heap.size) {room : Nat} (hr : room ≤ 10000) (hg : w.grownBy w1 none)
    (hown : w1.ownsRow lo 3 1 (.slice (some ⟨w.heap.size, 0, none⟩) (2 * room + 1) (2 * room + 1)) (2 * room + 1) (madeCells (Value.int .i64 0).cells ((2 * room + 1) * 1)).toList) :
    NewPost w lo room (.returned (.pointer (some ⟨w1.heap.size, 0, none⟩))) (w1.alloc (.cells #[.int .i64 (room : Int), .slice none 0 0, .slice none 0 0, .slice (some ⟨w.heap.size, 0, none⟩) (2 * room + 1) (2 * room + 1), .int .i64 (-1), .int .i64 (-1)] 65)) := by
  have hz : (madeCells (Value.int .i64 0).cells ((2 * room + 1) * 1)).toList = nats (List.replicate (2 * room + 1) 0) := by
    rw [show (Value.int .i64 0).cells = #[Value.int .i64 0] from rfl, toList_madeCells_one, Nat.mul_one]
    simp [nats]
  rw [hz] at hown
  have hsz := hg.size
  refine ⟨w1.heap.size, fun k => k = w1.heap.size ∨ k = w.heap.size, rfl, ⟨freshRing room, [], .slice none 0 0, .slice none 0 0, .slice (some ⟨w.heap.size, 0, none⟩) (2 * room + 1) (2 * room + 1), ⟨?_, ?_, ?_, ?_, ?_, ?_⟩, fresh_rep hr, rfl, rfl, ?_⟩, ?_, ?_⟩
  · exact heap_alloc_new _ _
  · omega
  · exact World.ownsRow_nil _ _ _ _
  · exact World.ownsRow_nil _ _ _ _
  · have := hown.alloc (.cells #[.int .i64 (room : Int), .slice none 0 0, .slice none 0 0, .slice (some ⟨w.heap.size, 0, none⟩) (2 * room + 1) (2 * room + 1), .int .i64 (-1), .int .i64 (-1)] 65)
    show World.ownsRow _ lo 3 1 _ (List.replicate (2 * room + 1) 0).length _
    rw [List.length_replicate]
    exact this
  · intro k hk
    simp [Value.ownBlock] at hk
  · intro k hk
    rcases hk with hk | hk | hk | hk
    · exact .inl hk
    · simp [Value.ownBlock] at hk
    · simp [Value.ownBlock] at hk
    · right
      simpa [Value.ownBlock] using hk.symm
  · intro k hk
    rcases hk with rfl | rfl
    · exact hsz
    · exact Nat.le_refl _
  · exact ((Below.refl w.heap.size w).grown hg (Nat.le_refl _) (fun k hk => by simp at hk)).alloc hsz _

set_option maxHeartbeats 4000000 in
theorem new_calls (w : World) (lo : Nat) (hlo : lo ≤ w.heap.size) (n : Int) (room : Nat) (hn : (room : Int) = max 0 (min n 10000)) :
    Calls Try.prog 11 #[.int .i64 n] w (NewPost w lo room) := by
  have hr : room ≤ 10000 := by omega
  obtain ⟨i0, hi, hz0, hz1, hz2⟩ := info_parts info3
  obtain ⟨w1, hrun, hown, hg⟩ := run_make_full (P := Try.prog) w lo 60 3 i0 (.int .i64 0) 1 Try.underlying60 hi hz0 hz1 .i64 .i64 (2 * room + 1) (by rw [hz2]; omega) (by simp only [maxLen]; omega) hlo
  have hfin := Asd.mk (fresh_at hlo hr hg hown)
  clear hown hg
  rw [show ((2 * room + 1 : Nat) : Int) = 2 * (room : Int) + 1 by omega] at hrun
  rcases Int.lt_or_le 0 n with h0 | h0
  · rcases Int.lt_or_le n 10000 with h1 | h1
    · obtain rfl : n = (room : Int) := by omega
      clear hn
      go_enter Try.func11, Try.ntmps11
      go_wp2
      go_ret
      exact hfin.out
    · obtain rfl : room = 10000 := by omega
      replace hrun : (Instr.makeSlice 60 (.int .i64 20001) (.int .i64 20001)).run Try.prog w = .ok (.slice (some ⟨w.heap.size, 0, none⟩) 20001 20001) w1 := hrun
      clear hn
      rcases Int.lt_or_eq_of_le h1 with h2 | h2
      · go_enter Try.func11, Try.ntmps11
        go_wp2
        go_ret
        exact hfin.out
      · subst h2
        go_enter Try.func11, Try.ntmps11
        go_wp2
        go_ret
        exact hfin.out
  · obtain rfl : room = 0 := by omega
    replace hrun : (Instr.makeSlice 60 (.int .i64 1) (.int .i64 1)).run Try.prog w = .ok (.slice (some ⟨w.heap.size, 0, none⟩) 1 1) w1 := hrun
    go_enter Try.func11, Try.ntmps11
    go_wp2
    go_ret
    exact hfin.out
end Go.Proofs.Ytapclgjelekijaa
