import Derived.Test.YtapclgjelekijaaA4
/-! The table's ring: put, whole. -/
namespace Go.Proofs.Ytapclgjelekijaa
open Go.RowKit

theorem TabPost.mono {w : World} {lo b room : Nat} {F G : Nat → Prop} {v : Value} {L : List (ByteArray × Int)} {e : Ending} {w' : World} (h : TabPost w lo b room F v L e w') (hG : ∀ k, F k → G k) : TabPost w lo b room G v L e w' := by
  obtain ⟨he, F', h1, h2, h3⟩ := h
  exact ⟨he, F', h1, fun k hk => by
    rcases h2 k hk with h | h
    · exact .inl (hG k h)
    · exact .inr h, h3.mono fun i _ hi => hG i hi⟩

theorem Lst_old {R R' : Ring} {o : List Nat} (P : Rep R o) {k : Nat} (hk : k ∈ o) {n : Int} (hkey : ∀ a, R'.key a = R.key a) (hval : ∀ a, R'.val a = if a = k then n else R.val a) :
    Lst R' (o.erase k ++ [k]) = without (Lst R o) (R.key k) ++ [(R.key k, n)] := by
  rw [← Lst_without P hk]
  unfold Lst
  rw [List.map_append, List.map_cons, List.map_nil, hkey, hval, if_pos rfl]
  congr 1
  refine List.map_congr_left fun a ha => ?_
  rw [erase_mem P.lnk.nd] at ha
  rw [hkey, hval, if_neg ha.1]

set_option maxHeartbeats 4000000 in
theorem put_old (w : World) (lo b : Nat) (R : Ring) (o : List Nat) (P : Rep R o) (g c : Nat) (fv wv : Value) (H : RingAt w lo b R (.slice (some ⟨g, 0, none⟩) R.slots.length c) fv wv) (k : Nat) (hk : k ∈ o) (n : Int) (hks : (R.key k).size ≤ 140737488355328) :
    Calls Try.prog 30 #[.pointer (some ⟨b, 0, none⟩), .string (R.key k), .int .i64 n] w (TabPost w lo b R.room (Foot b (.slice (some ⟨g, 0, none⟩) R.slots.length c) fv wv) (.bool true) (without (Lst R o) (R.key k) ++ [(R.key k, n)])) := by
  have hkl := P.lnk.lt k hk
  have hsl := P.slots_le
  have hkb : ((k : Int) != -1) = true := by rw [bne_iff_ne]; omega
  go_enter Try.func30, Try.ntmps30
  go_wp2_with fail
  refine (find_found H P hk rfl hks).mono ?_
  rintro e w' ⟨rfl, m0, rfl⟩
  have H1 := H.drewN m0
  have F1 := Asd.mk ((Fr.refl (Foot b (.slice (some ⟨g, 0, none⟩) R.slots.length c) fv wv) w).drewN m0)
  generalize w.drewN m0 = w1 at H1 F1 ⊢
  have h1 : w1.cell? ⟨b, 1, none⟩ = some (.slice (some ⟨g, 0, none⟩) R.slots.length c) := H1.cell 1
  obtain ⟨s0, hs0⟩ : ∃ s, R.slots[k]? = some s := ⟨_, List.getElem?_eq_getElem hkl⟩
  obtain ⟨d0, d1, d2, d3⟩ := H1.slot hs0
  have HS0 := Asd.mk hs0
  clear hs0
  have fg : ∀ i, w1.frozen? ⟨g, i, none⟩ = false := own_frozen H1.s rfl
  go_wp2_with fail
  have H2 := H1.setField HS0.out 1 (by omega) (.int .i64 n) (fun t => { t with v := n }) rfl
  have F2 := Asd.mk (F1.out.setCell (p := ⟨g, k * 4 + 1, none⟩) (.inl (.inr (.inl rfl))) (.int .i64 n))
  obtain ⟨P2, q1, q2⟩ := P.setVal hk n
  refine (touch_calls _ lo b _ _ _ _ H2 P2 k hk).mono ?_
  rintro e w3 ⟨rfl, H3, F3⟩
  have F4 := F2.out.trans F3 (fun i hi => .inl hi)
  obtain ⟨P3, r1, r2⟩ := P2.touch hk
  have HL := Lst_old P hk (n := n) (fun a => (r1 a).trans (q1 a)) (fun a => (r2 a).trans (q2 a))
  have HRM : ((({ R with slots := R.slots.modify k fun t => { t with v := n } } : Ring).cut k).lay k).room = R.room := by
    show (({ R with slots := R.slots.modify k fun t => { t with v := n } } : Ring).cut k).room = R.room
    unfold Ring.cut
    split <;> rfl
  have HALL := Asd.mk (And.intro HL HRM)
  clear HL HRM r1 r2 q1 q2 F3 F2 H2 d0 d1 d2 d3 h1 fg
  go_wp2_with fail
  go_ret
  exact ⟨rfl, _, ⟨_, _, _, _, _, H3, P3, HALL.out.2, HALL.out.1, fun _ h => h⟩, fun i hi => .inl hi, F4⟩

set_option maxHeartbeats 4000000 in
theorem put_full (w : World) (lo b : Nat) (R : Ring) (o : List Nat) (P : Rep R o) (sv fv wv : Value) (H : RingAt w lo b R sv fv wv) (key : ByteArray) (n : Int) (hks : key.size ≤ 140737488355328)
    (habs : ∀ a, a ∈ o → R.key a ≠ key) (hroom : ¬ o.length < R.room) :
    Calls Try.prog 30 #[.pointer (some ⟨b, 0, none⟩), .string key, .int .i64 n] w (TabPost w lo b R.room (Foot b sv fv wv) (.bool false) (Lst R o)) := by
  have hsl := P.slots_le
  have hcr : (decide ((R.room : Int) ≤ (R.slots.length : Int) - (R.free.length : Int))) = true := by
    rw [decide_eq_true_iff]; have := P.cnt; omega
  have HFL := Asd.mk (show R.free.length ≤ 100000 by have := P.cnt; omega)
  go_enter Try.func30, Try.ntmps30
  go_wp2_with fail
  refine (find_absent H P habs hks).mono ?_
  rintro e w' ⟨rfl, m0, rfl⟩
  have H1 := H.drewN m0
  have F1 := Asd.mk ((Fr.refl (Foot b sv fv wv) w).drewN m0)
  generalize w.drewN m0 = w1 at H1 F1 ⊢
  have h0 : w1.cell? ⟨b, 0, none⟩ = some (.int .i64 (R.room : Int)) := H1.cell 0
  go_wp2_with fail
  go_quiet ((go_at_call 33; exact Calls.quiet_of (count_calls _ lo b R _ _ _ (H1.drewN _) hsl HFL.out)))
  go_wp2_with fail
  go_ret
  exact ⟨rfl, _, ⟨_, _, _, _, _, H1.drewN _, P, rfl, rfl, fun _ h => h⟩, fun i hi => .inl hi, F1.out.drewN _⟩

theorem look_cases {R : Ring} {o : List Nat} (P : Rep R o) (key : ByteArray) : (∃ k, k ∈ o ∧ R.key k = key ∧ look (Lst R o) key = some (R.val k)) ∨ ((∀ a, a ∈ o → R.key a ≠ key) ∧ look (Lst R o) key = none) := by
  rcases key_cases R o key with ⟨k, hk, rfl⟩ | h
  · exact .inl ⟨k, hk, rfl, look_some P hk⟩
  · exact .inr ⟨h, look_none h⟩
theorem without_none {L : List (ByteArray × Int)} {key : ByteArray} (h : look L key = none) : without L key = L := by
  unfold look at h
  unfold without
  rw [Option.map_eq_none_iff, List.find?_eq_none] at h
  refine List.filter_eq_self.2 fun p hp => ?_
  have := h p hp
  simpa using this
theorem Lst_length (R : Ring) (o : List Nat) : (Lst R o).length = o.length := by simp [Lst]

/-- What Put leaves, and what it tells. -/
def putL (room : Nat) (L : List (ByteArray × Int)) (key : ByteArray) (n : Int) : List (ByteArray × Int) × Bool :=
  if (look L key).isSome || decide (L.length < room) then (without L key ++ [(key, n)], true) else (L, false)

theorem put_calls (w : World) (lo b room : Nat) (L : List (ByteArray × Int)) (F : Nat → Prop) (hlo : lo ≤ w.heap.size) (H : TabAt w lo b room L F) (key : ByteArray) (n : Int) (hks : key.size ≤ 140737488355328) :
    Calls Try.prog 30 #[.pointer (some ⟨b, 0, none⟩), .string key, .int .i64 n] w (TabPost w lo b room F (.bool (putL room L key n).2) (putL room L key n).1) := by
  obtain ⟨R, o, sv, fv, wv, H, P, rfl, rfl, hF⟩ := H
  refine Calls.mono ?_ (fun e w' h => TabPost.mono h hF)
  unfold putL
  rcases look_cases P key with ⟨k, hk, rfl, hl⟩ | ⟨habs, hl⟩
  · rw [hl]
    simp only [Option.isSome_some, Bool.true_or, if_true]
    have hkl := P.lnk.lt k hk
    obtain ⟨g, c, rfl⟩ := H.form (by omega)
    exact put_old w lo b R o P g c fv wv H k hk n hks
  · rw [hl, Lst_length, without_none hl]
    simp only [Option.isSome_none, Bool.false_or, decide_eq_true_eq]
    by_cases hroom : o.length < R.room
    · rw [if_pos hroom]
      obtain ⟨gw, cw, rfl, _⟩ := own_form H.y P.ways_le.2
      rcases List.eq_nil_or_concat R.free with hfree | ⟨fr, k, hfree⟩
      · exact put_new w lo b R o P hfree sv fv gw cw H hlo key n hks habs hroom
      · rw [List.concat_eq_append] at hfree
        have hfl : R.free.length = fr.length + 1 := by rw [hfree]; simp
        have hsl : 0 < R.slots.length := by have := P.cnt; omega
        obtain ⟨g, c, rfl⟩ := H.form hsl
        obtain ⟨gf, cf, hfv, _⟩ := own_form H.f (by omega)
        rw [hfl] at hfv
        subst hfv
        exact put_free w lo b R o P fr k hfree g c gf cf gw cw H key n hks habs hroom
    · rw [if_neg hroom]
      exact put_full w lo b R o P sv fv wv H key n hks habs hroom
end Go.Proofs.Ytapclgjelekijaa
