import Derived.Test.YtapclgjelekijaaA6
/-! The table's methods: Put, Peek, Get, Delete, Len. -/
namespace Go.Proofs.Ytapclgjelekijaa
open Go.RowKit

theorem quiet_add {P : Program} {f : FuncId} {args : Array Value} {w : World} {a n : Nat} {v : Value}
    (h : Calls P f args (w.drewN (a + n)) fun e w' => e = .returned v ∧ ∃ m, w' = (w.drewN (a + n)).drewN m) :
    Calls P f args (w.drewN (a + n)) fun e w'' => e = .returned v ∧ ∃ m, w'' = w.drewN (a + m) :=
  h.mono fun _ _ ⟨he, m, hm⟩ => ⟨he, n + m, by rw [hm, World.drewN_drewN, Nat.add_assoc]⟩

def peekV (L : List (ByteArray × Int)) (key : ByteArray) : Value := .tuple #[.int .i64 ((look L key).getD 0), .bool (look L key).isSome]

theorem TabAt.drewN {w : World} {lo b room : Nat} {L : List (ByteArray × Int)} {F : Nat → Prop} (H : TabAt w lo b room L F) (n : Nat) : TabAt (w.drewN n) lo b room L F := by
  obtain ⟨R, o, sv, fv, wv, H, P, h1, h2, h3⟩ := H
  exact ⟨R, o, sv, fv, wv, H.drewN n, P, h1, h2, h3⟩
theorem TabAt.below {w w' : World} {lo b room : Nat} {L : List (ByteArray × Int)} {F : Nat → Prop} (H : TabAt w lo b room L F) (hb : Below w.heap.size w w') : TabAt w' lo b room L F := by
  obtain ⟨R, o, sv, fv, wv, H, P, h1, h2, h3⟩ := H
  exact ⟨R, o, sv, fv, wv, H.below hb, P, h1, h2, h3⟩
theorem TabAt.fr {w w' : World} {lo b room : Nat} {L : List (ByteArray × Int)} {F G : Nat → Prop} (H : TabAt w lo b room L F) (h : Fr G w w') (hG : ∀ k, F k → ¬ G k) : TabAt w' lo b room L F := by
  obtain ⟨R, o, sv, fv, wv, H, P, h1, h2, h3⟩ := H
  exact ⟨R, o, sv, fv, wv, H.fr h (fun k hk => hG k (h3 k hk)), P, h1, h2, h3⟩
/-- A table's own blocks are there. -/
theorem TabAt.own {w : World} {lo b room : Nat} {L : List (ByteArray × Int)} {F : Nat → Prop} (H : TabAt w lo b room L F) : TabAt w lo b room L (fun k => F k ∧ lo ≤ k ∧ k < w.heap.size) := by
  obtain ⟨R, o, sv, fv, wv, H, P, h1, h2, h3⟩ := H
  exact ⟨R, o, sv, fv, wv, H, P, h1, h2, fun k hk => ⟨h3 k hk, H.foot_lt k hk⟩⟩

set_option maxHeartbeats 4000000 in
theorem peek_calls (w : World) (lo b room : Nat) (L : List (ByteArray × Int)) (F : Nat → Prop) (H : TabAt w lo b room L F) (key : ByteArray) (hks : key.size ≤ 140737488355328) :
    Calls Try.prog 13 #[.pointer (some ⟨b, 0, none⟩), .string key] w fun e w' => e = .returned (peekV L key) ∧ ∃ m, w' = w.drewN m := by
  obtain ⟨R, o, sv, fv, wv, H, P, rfl, rfl, hF⟩ := H
  rcases look_cases P key with ⟨k, hk, hkey, hl⟩ | ⟨habs, hl⟩
  · unfold peekV
    rw [hl]
    simp only [Option.getD_some, Option.isSome_some]
    have hkl := P.lnk.lt k hk
    have hsl := P.slots_le
    obtain ⟨g, c, rfl⟩ := H.form (by omega)
    have hkb : ((k : Int) == -1) = false := by rw [beq_eq_false_iff_ne]; omega
    obtain ⟨s0, hs0⟩ : ∃ s, R.slots[k]? = some s := ⟨_, List.getElem?_eq_getElem hkl⟩
    have hv : R.val k = s0.v := by unfold Ring.val; rw [hs0]; rfl
    rw [hv]
    obtain ⟨_, d1, _, _⟩ := H.slot hs0
    have h1 : w.cell? ⟨b, 1, none⟩ = some (.slice (some ⟨g, 0, none⟩) R.slots.length c) := H.cell 1
    have HK := Asd.mk hkey
    clear hkey hs0 hv hl
    go_enter Try.func13, Try.ntmps13
    go_wp2_with fail
    refine (find_found H P hk HK.out hks).mono ?_
    rintro e w' ⟨rfl, m0, rfl⟩
    go_wp2_with fail
    go_quiet ((go_at_call 28; exact quiet_add (find_found (H.drewN _) P hk HK.out hks)))
    go_wp2_with fail
    go_ret2
    exact ⟨rfl, _, World.drewN_drewN ..⟩
  · unfold peekV
    rw [hl]
    simp only [Option.getD_none, Option.isSome_none]
    go_enter Try.func13, Try.ntmps13
    go_wp2_with fail
    refine (find_absent H P habs hks).mono ?_
    rintro e w' ⟨rfl, m0, rfl⟩
    go_wp2_with fail
    go_ret2
    exact ⟨rfl, _, rfl⟩

set_option maxHeartbeats 4000000 in
theorem tput_calls (w : World) (lo b room : Nat) (L : List (ByteArray × Int)) (F : Nat → Prop) (hlo : lo ≤ w.heap.size) (H : TabAt w lo b room L F) (key : ByteArray) (n : Int) (hks : key.size ≤ 140737488355328) :
    Calls Try.prog 15 #[.pointer (some ⟨b, 0, none⟩), .string key, .int .i64 n] w (TabPost w lo b room F (.bool (putL room L key n).2) (putL room L key n).1) := by
  generalize hv : (putL room L key n).2 = bv
  have HV := Asd.mk hv
  clear hv
  go_enter Try.func15, Try.ntmps15
  go_wp2_with fail
  refine (put_calls w lo b room L F hlo H key n hks).mono ?_
  rintro e w' ⟨rfl, hp⟩
  rw [HV.out]
  have HP := Asd.mk hp
  clear hp
  go_wp2_with fail
  go_ret
  exact ⟨rfl, HP.out⟩

set_option maxHeartbeats 4000000 in
theorem len_calls (w : World) (lo b room : Nat) (L : List (ByteArray × Int)) (F : Nat → Prop) (H : TabAt w lo b room L F) :
    Calls Try.prog 20 #[.pointer (some ⟨b, 0, none⟩)] w fun e w' => e = .returned (.int .i64 (L.length : Int)) ∧ ∃ m, w' = w.drewN m := by
  obtain ⟨R, o, sv, fv, wv, H, P, rfl, rfl, hF⟩ := H
  have hc := P.cnt
  have hsl := P.slots_le
  rw [Lst_length]
  go_enter Try.func20, Try.ntmps20
  go_wp2_with fail
  refine (count_calls w lo b R sv fv wv H hsl (by omega)).mono ?_
  rintro e w' ⟨rfl, m0, rfl⟩
  rw [show (R.slots.length : Int) - (R.free.length : Int) = (o.length : Int) by omega]
  go_wp2_with fail
  go_ret
  exact ⟨rfl, _, rfl⟩
theorem len_nil (w : World) : Calls Try.prog 20 #[.pointer none] w fun e w' => e = .returned (.int .i64 0) ∧ w' = w := by
  go_enter Try.func20, Try.ntmps20
  go_wp2_with fail
  go_ret
  exact ⟨rfl, rfl⟩
end Go.Proofs.Ytapclgjelekijaa
