import Derived.Test.YtapclgjelekijaaA7
import Derived.Deep.RegionHeld3
/-! The table's methods: Get, Delete, Oldest, Next. -/
namespace Go.Proofs.Ytapclgjelekijaa
open Go.RowKit

def getL (L : List (ByteArray × Int)) (key : ByteArray) : List (ByteArray × Int) := match look L key with
  | some n => without L key ++ [(key, n)]
  | none => L

set_option maxHeartbeats 4000000 in
theorem get_calls (w : World) (lo b room : Nat) (L : List (ByteArray × Int)) (F : Nat → Prop) (H : TabAt w lo b room L F) (key : ByteArray) (hks : key.size ≤ 140737488355328) :
    Calls Try.prog 18 #[.pointer (some ⟨b, 0, none⟩), .string key] w (TabPost w lo b room F (peekV L key) (getL L key)) := by
  have HT := H
  obtain ⟨R, o, sv, fv, wv, H, P, rfl, rfl, hF⟩ := H
  rcases look_cases P key with ⟨k, hk, hkey, hl⟩ | ⟨habs, hl⟩
  · have hpk := peek_calls w lo b R.room (Lst R o) F HT key hks
    unfold peekV at hpk ⊢
    unfold getL
    rw [hl] at hpk ⊢
    simp only [Option.getD_some, Option.isSome_some] at hpk ⊢
    have HPK := Asd.mk hpk
    clear hpk
    have HK := Asd.mk hkey
    clear hkey hl
    go_enter Try.func18, Try.ntmps18
    go_wp2_with fail
    refine HPK.out.mono ?_
    rintro e w' ⟨rfl, m0, rfl⟩
    have H1 := H.drewN m0
    have F1 := Asd.mk ((Fr.refl (Foot b sv fv wv) w).drewN m0)
    generalize w.drewN m0 = w1 at *
    go_upto_region 3 with (fail)
    go_region_held3 (fun _ => True) (trivial)
      (first | (go_at_call 28; refine (find_found H1.drew P hk HK.out hks).mono ?_; rintro e w' ⟨rfl, m1, rfl⟩) | (go_at_call 32; refine (touch_calls _ lo b R _ _ _ (H1.drewN _) P k hk).mono ?_; rintro e w2 ⟨rfl, H2, F2⟩))
    have F3 := Asd.mk ((F1.out.drewN _).trans F2 (fun i hi => .inl hi))
    clear F2
    go_wp2_with fail
    go_ret2
    obtain ⟨P3, r1, r2⟩ := P.touch hk
    refine ⟨rfl, _, ⟨_, _, _, _, _, H2, P3, ?_, ?_, hF⟩, fun i hi => .inl hi, F3.out.mono (fun i _ hi => hF i hi)⟩
    · show (R.cut k).room = R.room
      unfold Ring.cut
      split <;> rfl
    · rw [← HK.out]
      exact Lst_old P hk r1 (fun a => by rw [r2 a]; split <;> simp [*])
  · have hpk := peek_calls w lo b R.room (Lst R o) F HT key hks
    unfold peekV at hpk ⊢
    unfold getL
    rw [hl] at hpk ⊢
    simp only [Option.getD_none, Option.isSome_none] at hpk ⊢
    have HPK := Asd.mk hpk
    clear hpk hl
    go_enter Try.func18, Try.ntmps18
    go_wp2_with fail
    refine HPK.out.mono ?_
    rintro e w' ⟨rfl, m0, rfl⟩
    go_wp2_with fail
    go_ret2
    exact ⟨rfl, _, ⟨_, _, _, _, _, H.drewN _, P, rfl, rfl, hF⟩, fun i hi => .inl hi, (Fr.refl _ _).drewN _⟩

set_option maxHeartbeats 4000000 in
theorem del_calls (w : World) (lo b room : Nat) (L : List (ByteArray × Int)) (F : Nat → Prop) (hlo : lo ≤ w.heap.size) (H : TabAt w lo b room L F) (hL : ∀ q, q ∈ L → q.1.size ≤ 140737488355328) (key : ByteArray) (hks : key.size ≤ 140737488355328) :
    Calls Try.prog 16 #[.pointer (some ⟨b, 0, none⟩), .string key] w (TabPost w lo b room F (.bool (look L key).isSome) (without L key)) := by
  have HT := H
  obtain ⟨R, o, sv, fv, wv, H, P, rfl, rfl, hF⟩ := H
  rcases look_cases P key with ⟨k, hk, hkey, hl⟩ | ⟨habs, hl⟩
  · have hpk := peek_calls w lo b R.room (Lst R o) F HT key hks
    unfold peekV at hpk
    rw [hl] at hpk ⊢
    simp only [Option.getD_some, Option.isSome_some] at hpk ⊢
    have HPK := Asd.mk hpk
    clear hpk
    have HK := Asd.mk hkey
    have hkl := P.lnk.lt k hk
    obtain ⟨g, c, rfl⟩ := H.form (by omega)
    obtain ⟨gw, cw, rfl, _⟩ := own_form H.y P.ways_le.2
    have HKZ : Asd (∀ a, a ∈ o → (R.key a).size ≤ 140737488355328) := ⟨fun a ha => hL _ (List.mem_map.2 ⟨a, ha, rfl⟩)⟩
    clear hkey hl hL
    go_enter Try.func16, Try.ntmps16
    go_wp2_with fail
    refine HPK.out.mono ?_
    rintro e w' ⟨rfl, m0, rfl⟩
    have H1 := H.drewN m0
    have hlo1 : lo ≤ (w.drewN m0).heap.size := hlo
    have F1 := Asd.mk ((Fr.refl (Foot b (.slice (some ⟨g, 0, none⟩) R.slots.length c) fv (.slice (some ⟨gw, 0, none⟩) R.ways.length cw)) w).drewN m0)
    generalize w.drewN m0 = w1 at *
    go_upto_region 4 with (fail)
    go_region_held3 (fun _ => True) (trivial)
      (first | (go_at_call 28; refine (find_found H1.drew P hk HK.out hks).mono ?_; rintro e w' ⟨rfl, m1, rfl⟩) | (go_at_call 31; refine (drop_calls _ lo b R o P g c fv gw cw (H1.drewN _) hlo1 k hk HKZ.out).mono ?_; rintro e w2 ⟨rfl, hp2⟩; have HP2 := Asd.mk hp2; clear hp2))
    go_wp2_with fail
    go_ret
    obtain ⟨F', h1, h2, h3⟩ := HP2.out
    refine ⟨rfl, F', ?_, fun i hi => ?_, ((F1.out.drewN _).trans h3 (fun i hi => .inl hi)).mono (fun i _ hi => hF i hi)⟩
    · rw [← HK.out]; exact h1
    · rcases h2 i hi with h | h
      · exact .inl (hF i h)
      · exact .inr (Nat.le_trans F1.out.size h)
  · have hpk := peek_calls w lo b R.room (Lst R o) F HT key hks
    unfold peekV at hpk
    have hwn := without_none hl
    rw [hl] at hpk ⊢
    rw [hwn]
    simp only [Option.getD_none, Option.isSome_none] at hpk ⊢
    have HPK := Asd.mk hpk
    clear hpk hl hwn
    go_enter Try.func16, Try.ntmps16
    go_wp2_with fail
    refine HPK.out.mono ?_
    rintro e w' ⟨rfl, m0, rfl⟩
    go_wp2_with fail
    go_ret
    exact ⟨rfl, _, ⟨_, _, _, _, _, H.drewN _, P, rfl, rfl, hF⟩, fun i hi => .inl hi, (Fr.refl _ _).drewN _⟩
end Go.Proofs.Ytapclgjelekijaa
