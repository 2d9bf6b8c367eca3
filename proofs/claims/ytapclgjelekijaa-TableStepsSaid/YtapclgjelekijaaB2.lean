import Derived.Test.YtapclgjelekijaaB1
/-! The statements' helpers: Same, Long, did. -/
namespace Go.Proofs.Ytapclgjelekijaa
open Go.RowKit

/-- A slice that reads as texts. -/
def StrAt (w : World) (v : Value) (l : List ByteArray) : Prop :=
  ∃ A c, v = .slice A l.length c ∧ l.length ≤ 9223372036854775807 ∧ (0 < l.length → ∃ g, A = some ⟨g, 0, none⟩ ∧ g < w.heap.size ∧ ∀ (j : Nat) (s : ByteArray), l[j]? = some s → w.cell? ⟨g, j, none⟩ = some (.string s))
theorem StrAt.below {w w' : World} {v : Value} {l : List ByteArray} (h : StrAt w v l) (hb : Below w.heap.size w w') : StrAt w' v l := by
  obtain ⟨A, c, h1, h2, h3⟩ := h
  refine ⟨A, c, h1, h2, fun hl => ?_⟩
  obtain ⟨g, h4, h5, h6⟩ := h3 hl
  exact ⟨g, h4, Nat.lt_of_lt_of_le h5 hb.size, fun j s hj => (hb.cell (p := ⟨g, j, none⟩) h5).trans (h6 j s hj)⟩
theorem StrAt.own {w : World} {base : Nat} {v : Value} {n : Nat} {l : List ByteArray} (h : w.ownsRow base 9 1 v n (l.map Value.string)) : StrAt w v l := by
  have hn : l.length = n := by have := h.1; simpa using this
  subst hn
  rcases h.2 with ⟨h1, h2⟩ | ⟨g, cap, cur, h1, h2, h3, h4, h5, _⟩
  · exact ⟨none, 0, by rw [h2]; exact h1, by omega, fun hl => by omega⟩
  · subst h1
    refine ⟨_, cap, rfl, by simp only [maxLen] at h5; omega, fun hl => ⟨g, rfl, (Array.getElem?_eq_some_iff.1 h3).1, fun j s hj => ?_⟩⟩
    have hjl := (List.getElem?_eq_some_iff.1 hj).1
    rw [h.cellAt j (by omega), List.getElem?_map, hj]
    rfl

set_option maxHeartbeats 4000000 in
theorem same_calls (w : World) (v1 v2 : Value) (l1 l2 : List ByteArray) (h1 : StrAt w v1 l1) (h2 : StrAt w v2 l2) :
    Calls Try.prog 17 #[v1, v2] w fun e w' => e = .returned (.bool (decide (l1 = l2))) ∧ ∃ m, w' = w.drewN m := by
  obtain ⟨A1, c1, rfl, hm1, hs1⟩ := h1
  obtain ⟨A2, c2, rfl, hm2, hs2⟩ := h2
  by_cases hl : l1.length = l2.length
  · have hlb : ((l1.length : Int) != (l2.length : Int)) = false := by rw [bne_eq_false_iff_eq]; omega
    have HS1 := Asd.mk hs1
    have HS2 := Asd.mk hs2
    have HL := Asd.mk hl
    clear hs1 hs2 hl
    go_enter Try.func17, Try.ntmps17
    go_wp2
    go_loopg [5] l1.length (fun kq v5 w' => ∃ k : Nat, v5 = .int .i64 (k : Int) ∧ Asd (kq + k = l1.length) ∧ Asd (∀ j : Nat, j < k → l1[j]? = l2[j]?) ∧ Asd (∃ m, w' = w.drewN m))
    case atStart => exact ⟨0, rfl, ⟨by omega⟩, ⟨fun j hj => by omega⟩, ⟨0, rfl⟩⟩
    case round =>
      obtain ⟨k, rfl, HK, HE, HW⟩ := hrel
      have hk := HK.out
      cases gk with
      | zero =>
        have hge : ¬ (k < l1.length) := by omega
        have hge2 : (decide (k < l1.length)) = false := by rw [decide_eq_false_iff_not]; omega
        clear hk
        go_wp2
        go_ret
        refine ⟨?_, HW.out⟩
        have : l1 = l2 := by
          apply List.ext_getElem?
          intro j
          rcases Nat.lt_or_ge j k with h | h
          · exact HE.out j h
          · have := HL.out
            rw [List.getElem?_eq_none (by omega), List.getElem?_eq_none (by omega)]
        rw [decide_eq_true this]
        rfl
      | succ k1 =>
        have hlt : k < l1.length := by omega
        have hlt2 : k < l2.length := by have := HL.out; omega
        obtain ⟨g1, rfl, hg1, hc1⟩ := HS1.out (by omega)
        obtain ⟨g2, rfl, hg2, hc2⟩ := HS2.out (by omega)
        obtain ⟨s1, hs1⟩ : ∃ s, l1[k]? = some s := ⟨_, List.getElem?_eq_getElem hlt⟩
        obtain ⟨s2, hs2⟩ : ∃ s, l2[k]? = some s := ⟨_, List.getElem?_eq_getElem hlt2⟩
        obtain ⟨m, hm⟩ := HW.out
        subst hm
        have d1 : w.cell? ⟨g1, k, none⟩ = some (.string s1) := hc1 k s1 hs1
        have d2 : w.cell? ⟨g2, k, none⟩ = some (.string s2) := hc2 k s2 hs2
        have HS := Asd.mk (And.intro hs1 hs2)
        clear hs1 hs2 hc1 hc2 hk
        by_cases he : s1 = s2
        · have heb : (s1.toList != s2.toList) = false := by rw [he]; simp
          have heb2 : (s1.toList == s2.toList) = true := by rw [he]; simp
          have HEQ := Asd.mk he
          clear he
          go_wp2
          go_quiet (fail)
          go_wp2
          go_roundg k1
          case measure => omega
          case rel => exact ⟨k + 1, by go_num, ⟨by have := HK.out; omega⟩, ⟨fun j hj => by
            rcases Nat.lt_or_ge j k with h | h
            · exact HE.out j h
            · obtain rfl : j = k := by omega
              rw [HS.out.1, HS.out.2, HEQ.out]⟩, ⟨_, rfl⟩⟩
        · have heb : (s1.toList != s2.toList) = true := by
            rw [bne_iff_ne]
            intro e
            exact he (ByteArray.ext (by simpa [ByteArray.toList_eq] using e))
          have heb2 : (s1.toList == s2.toList) = false := by
            rw [beq_eq_false_iff_ne]
            intro e
            exact he (ByteArray.ext (by simpa [ByteArray.toList_eq] using e))
          have HNE := Asd.mk he
          clear he
          go_wp2
          go_quiet (fail)
          go_wp2
          go_ret
          refine ⟨?_, _, World.drewN_drewN ..⟩
          have : ¬ l1 = l2 := fun e => by
            have := HS.out.1
            rw [e, HS.out.2] at this
            injection this with this
            exact HNE.out this.symm
          rw [decide_eq_false this]
          rfl
  · have hlb : ((l1.length : Int) != (l2.length : Int)) = true := by rw [bne_iff_ne]; omega
    have hne : ¬ l1 = l2 := fun e => hl (by rw [e])
    rw [decide_eq_false hne]
    clear hl hne hs1 hs2
    go_enter Try.func17, Try.ntmps17
    go_wp2
    go_ret
    exact ⟨rfl, 0, rfl⟩

/-- What is done: kind, key, number. -/
structure Act3 where
  kind : Int
  key : ByteArray
  n : Int
/-- The list then, and what is told. -/
def doL (room : Nat) (L : List (ByteArray × Int)) (d : Act3) : List (ByteArray × Int) × Int × Bool :=
  if d.kind = 1 then ((putL room L d.key d.n).1, 0, (putL room L d.key d.n).2)
  else if d.kind = 2 then (getL L d.key, (look L d.key).getD 0, (look L d.key).isSome)
  else if d.kind = 3 then (without L d.key, 0, (look L d.key).isSome)
  else (L, 0, false)
def doV (room : Nat) (L : List (ByteArray × Int)) (d : Act3) : Value := .tuple #[.int .i64 (doL room L d).2.1, .bool (doL room L d).2.2]

theorem TabPost.val {w : World} {lo b room : Nat} {F : Nat → Prop} {v v' : Value} {L : List (ByteArray × Int)} {e : Ending} {w' : World} (h : TabPost w lo b room F v L e w') : TabPost w lo b room F v' L (.returned v') w' := ⟨rfl, h.2⟩
theorem TabPost.from {w w1 : World} {lo b room : Nat} {F : Nat → Prop} {v : Value} {L : List (ByteArray × Int)} {e : Ending} {w' : World} (h : TabPost w1 lo b room F v L e w') (hf : Fr F w w1) : TabPost w lo b room F v L e w' := by
  obtain ⟨he, F', h1, h2, h3⟩ := h
  exact ⟨he, F', h1, fun k hk => by
    rcases h2 k hk with h | h
    · exact .inl h
    · exact .inr (Nat.le_trans hf.size h), hf.trans h3 (fun i hi => .inl hi)⟩

set_option maxHeartbeats 4000000 in
theorem did_calls (w : World) (lo b room : Nat) (L : List (ByteArray × Int)) (F : Nat → Prop) (hlo : lo ≤ w.heap.size) (H : TabAt w lo b room L F) (hL : ∀ q, q ∈ L → q.1.size ≤ 140737488355328) (d : Act3) (hks : d.key.size ≤ 140737488355328) :
    Calls Try.prog 12 #[.pointer (some ⟨b, 0, none⟩), .agg #[.int .i64 d.kind, .string d.key, .int .i64 d.n]] w (TabPost w lo b room F (doV room L d) (doL room L d).1) := by
  have H1 : ∀ o, TabAt (w.alloc o) lo b room L F := fun o => H.below ((Below.refl _ w).alloc (Nat.le_refl _) o)
  have F1 : ∀ o, Fr F w (w.alloc o) := fun o => (Fr.refl F w).alloc o
  have hlo1 : ∀ o, lo ≤ (w.alloc o).heap.size := fun o => by simp; omega
  have HH := Asd.mk H1
  have HF := Asd.mk F1
  have HLO := Asd.mk hlo1
  clear H1 F1 hlo1
  unfold doV doL
  by_cases k1 : d.kind = 1
  · rw [if_pos k1]
    have b1 : (d.kind == 1) = true := by rw [k1]; rfl
    generalize hbv : (putL room L d.key d.n).2 = bv
    have HBV := Asd.mk hbv
    clear k1 hbv
    go_enter Try.func12, Try.ntmps12
    go_wp2_with fail
    refine (tput_calls _ lo b room L F (HLO.out _) (HH.out _) d.key d.n hks).mono ?_
    rintro e w' ⟨rfl, hp⟩
    rw [HBV.out]
    have HP : Asd (TabPost w lo b room F (.bool bv) (putL room L d.key d.n).1 (.returned (.bool bv)) w') := ⟨TabPost.from ⟨rfl, hp⟩ (HF.out _)⟩
    clear hp
    go_wp2_with fail
    go_ret2
    exact HP.out.val
  · rw [if_neg k1]
    have b1 : (d.kind == 1) = false := by rw [beq_eq_false_iff_ne]; exact k1
    by_cases k2 : d.kind = 2
    · rw [if_pos k2]
      have b2 : (d.kind == 2) = true := by rw [k2]; rfl
      have hp2 : ∀ o, Calls Try.prog 18 #[.pointer (some ⟨b, 0, none⟩), .string d.key] (w.alloc o) (TabPost (w.alloc o) lo b room F (.tuple #[.int .i64 ((look L d.key).getD 0), .bool (look L d.key).isSome]) (getL L d.key)) := fun o => get_calls _ lo b room L F (HH.out o) d.key hks
      dsimp only
      generalize (look L d.key).getD 0 = nv at *
      generalize (look L d.key).isSome = bv at *
      have HP2 := Asd.mk hp2
      clear k1 k2 hp2
      go_enter Try.func12, Try.ntmps12
      go_wp2_with fail
      refine (HP2.out _).mono ?_
      rintro e w' ⟨rfl, hp⟩
      have HP : Asd (TabPost w lo b room F (.bool bv) (getL L d.key) (.returned (.bool bv)) w') := ⟨TabPost.from ⟨rfl, hp⟩ (HF.out _)⟩
      clear hp
      go_wp2_with fail
      go_ret2
      exact HP.out.val
    · rw [if_neg k2]
      have b2 : (d.kind == 2) = false := by rw [beq_eq_false_iff_ne]; exact k2
      by_cases k3 : d.kind = 3
      · rw [if_pos k3]
        have b3 : (d.kind == 3) = true := by rw [k3]; rfl
        have hp2 : ∀ o, Calls Try.prog 16 #[.pointer (some ⟨b, 0, none⟩), .string d.key] (w.alloc o) (TabPost (w.alloc o) lo b room F (.bool (look L d.key).isSome) (without L d.key)) := fun o => del_calls _ lo b room L F (HLO.out o) (HH.out o) hL d.key hks
        dsimp only
        generalize (look L d.key).isSome = bv at *
        have HP2 := Asd.mk hp2
        clear k1 k2 k3 hp2
        go_enter Try.func12, Try.ntmps12
        go_wp2_with fail
        refine (HP2.out _).mono ?_
        rintro e w' ⟨rfl, hp⟩
        have HP : Asd (TabPost w lo b room F (.bool bv) (without L d.key) (.returned (.bool bv)) w') := ⟨TabPost.from ⟨rfl, hp⟩ (HF.out _)⟩
        clear hp
        go_wp2_with fail
        go_ret2
        exact HP.out.val
      · rw [if_neg k3]
        have b3 : (d.kind == 3) = false := by rw [beq_eq_false_iff_ne]; exact k3
        clear k1 k2 k3
        go_enter Try.func12, Try.ntmps12
        go_wp2_with fail
        go_ret2
        exact ⟨rfl, F, HH.out _, fun k hk => .inl hk, HF.out _⟩
end Go.Proofs.Ytapclgjelekijaa
