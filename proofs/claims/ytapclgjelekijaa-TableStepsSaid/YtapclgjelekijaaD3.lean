import Derived.Test.YtapclgjelekijaaD1
/-! TableKeeps: the walk. -/
namespace Go.Proofs.Ytapclgjelekijaa
open Go.RowKit
set_option linter.unusedSimpArgs false
set_option linter.unusedVariables false

theorem DoAt.cells {w : World} {g off c : Nat} {l : List Act3} {k : Nat} {d : Act3} (h : DoAt w (.slice (some ⟨g, off, none⟩) l.length c) l) (hd : l[k]? = some d) :
    w.cell? ⟨g, off + k * 3, none⟩ = some (.int .i64 d.kind) ∧ w.cell? ⟨g, off + k * 3 + 1, none⟩ = some (.string d.key) ∧ w.cell? ⟨g, off + k * 3 + 2, none⟩ = some (.int .i64 d.n) := by
  obtain ⟨A, c', he, _, hr⟩ := h
  have hk := (List.getElem?_eq_some_iff.1 hd).1
  obtain ⟨b, off', h1, _, hc⟩ := hr (by omega)
  injection he with he _ _
  rw [h1] at he
  injection he with he
  injection he with he1 he2
  subst he1 he2
  exact hc k d hd
theorem StrAt.cell {w : World} {A : Option Addr} {n c : Nat} {l : List ByteArray} {j : Nat} {s : ByteArray} (h : StrAt w (.slice A n c) l) (hj : l[j]? = some s) :
    ∃ g, A = some ⟨g, 0, none⟩ ∧ g < w.heap.size ∧ w.cell? ⟨g, j, none⟩ = some (.string s) := by
  obtain ⟨A', c', he, _, hr⟩ := h
  have hk := (List.getElem?_eq_some_iff.1 hj).1
  obtain ⟨g, h1, h2, hc⟩ := hr (by omega)
  injection he with he _ _
  exact ⟨g, he.trans h1, h2, hc j s hj⟩
theorem StrAt.cells {w : World} {g n c : Nat} {l : List ByteArray} {j : Nat} {s : ByteArray} (h : StrAt w (.slice (some ⟨g, 0, none⟩) n c) l) (hj : l[j]? = some s) : w.cell? ⟨g, j, none⟩ = some (.string s) := by
  obtain ⟨g', h1, _, h2⟩ := h.cell hj
  injection h1 with h1
  injection h1 with h1
  subst h1
  exact h2
theorem doL_len (room : Nat) (L : List (ByteArray × Int)) (d : Act3) : (doL room L d).1.length ≤ L.length + 1 := by
  have h1 : ∀ key, (without L key).length ≤ L.length := fun key => List.length_filter_le _ _
  unfold doL
  split
  · show (putL room L d.key d.n).1.length ≤ _
    unfold putL
    split
    · have := h1 d.key
      simp
      omega
    · simp
  · split
    · show (getL L d.key).length ≤ _
      unfold getL
      split
      · have := h1 d.key
        simp
        omega
      · omega
    · split
      · have := h1 d.key
        show (without L d.key).length ≤ _
        omega
      · simp
theorem runL_len (room : Nat) (l : List Act3) : ∀ k, (runL room l k).length ≤ k
  | 0 => by simp [runL]
  | k + 1 => by
    have h := runL_len room l k
    rcases hk : l[k]? with _ | d
    · have : runL room l (k + 1) = runL room l k := by unfold runL; rw [List.take_add_one, hk]; simp
      rw [this]
      omega
    · rw [runL_succ room hk]
      have := doL_len room (runL room l k) d
      omega
section
variable {w wr : World} {b room : Nat} {L : List (ByteArray × Int)} {Q : World → (Nat → Prop) → Prop} {b2 room2 : Nat} {L2 : List (ByteArray × Int)}
theorem Hld.keys2 (hQ : Stab Q) (H : Hld w wr b room L (TabQ w.heap.size b2 room2 L2 Q)) :
    Calls Try.prog 14 #[.pointer (some ⟨b, 0, none⟩)] wr fun e w' => ∃ v, e = .returned v ∧ Hld w w' b room L (TabQ w.heap.size b2 room2 L2 (StrQ v (L.map (·.1)) Q)) := by
  obtain ⟨F0, hT0, _⟩ := H.tab
  refine (keys_calls wr w.heap.size b room L F0 hT0).mono ?_
  rintro e w' ⟨v, h1, h2, hb⟩
  refine ⟨v, h1, ?_⟩
  have h : w'.ownsRow wr.heap.size 9 1 v L.length ((L.map (·.1)).map Value.string) := by
    rw [List.map_map]
    exact h2
  obtain ⟨⟨F, hT, hF, hq⟩, hB, hs, hg⟩ := H
  obtain ⟨G, hG, hx, hg2, hq2⟩ := hs _ _ _ _ hq ((Fr.refl F wr).below hb) fun k hk => .inl hk
  have hGlt : ∀ k, G k → k < w'.heap.size := fun k hk => (hx k hk).2.1
  obtain ⟨G', hG', hx', _, hq3⟩ := hq
  refine ⟨⟨F, hT.below hb, fun k hk => ⟨(hF k hk).1, Nat.lt_of_lt_of_le (hF k hk).2 hb.size⟩, G', hG'.below hb, fun k hk => ⟨(hx' k hk).1, Nat.lt_of_lt_of_le (hx' k hk).2.1 hb.size, (hx' k hk).2.2⟩, hg2, ?_, hQ _ _ _ _ hq3 ((Fr.refl _ wr).below hb) fun k hk => .inl hk⟩, hB.trans (hb.mono hB.size), TabQ.stab (StrQ.stab hQ), hg⟩
  obtain ⟨A, c, h1, h2, h3⟩ := StrAt.own h
  refine ⟨A, c, h1, h2, fun hl => ?_⟩
  obtain ⟨g, h4, h5, h6⟩ := h3 hl
  refine ⟨g, h4, h5, fun hh => ?_, h6⟩
  have h7 : g < wr.heap.size := by
    rcases hh with hh | hh
    · exact (hF g hh).2
    · exact (hx' g hh).2.1
  rcases h.2 with ⟨h8, _⟩ | ⟨g', cap, cur, h8, h9, _⟩
  · rw [h8, h4] at h1
    injection h1 with h1
    simp at h1
  · rw [h8, h4] at h1
    injection h1 with h1
    injection h1 with h1
    injection h1 with h1
    omega
theorem Hld.str2 {v : Value} {l : List ByteArray} (H : Hld w wr b room L (TabQ w.heap.size b2 room2 L2 (StrQ v l Q))) : StrAt wr v l := by
  obtain ⟨F, _, _, G, _, _, _, h⟩ := H.tab
  exact h.str
end
set_option maxRecDepth 20000 in
set_option maxHeartbeats 6000000 in
theorem keeps_law (w : World) (v0 : Value) (l : List Act3) (H : DoAt w v0 l) (hs : ∀ d, d ∈ l → d.key.size ≤ 140737488351232) (key : ByteArray) (hky : key.size ≤ 140737488351232) (n : Int) :
    Calls Try.prog 3 #[v0, .string key, .int .i64 n] w fun e w' => e = .returned (.bool true) ∧ Below w.heap.size w w' := by
  have hks : key.size ≤ 140737488355328 := by omega
  have HD := Asd.mk H
  obtain ⟨A, c, rfl, hm, hr⟩ := H
  have HS := Asd.mk hs
  clear hr hs
  by_cases h60 : 50 < l.length
  · have h60b : decide (50 < l.length) = true := decide_eq_true h60
    have h60c : decide ((l.length : Int) > 50) = true := decide_eq_true (by omega)
    clear h60
    go_enter Try.func3, Try.ntmps3
    go_wp2_with fail
    refine (known_calls _).mono ?_
    rintro e w7 ⟨rfl, hb7⟩
    go_wp2_with fail
    go_ret
    exact ⟨rfl, hb7⟩
  · have h60b : decide (50 < l.length) = false := decide_eq_false h60
    have h60c : decide ((l.length : Int) > 50) = false := decide_eq_false (by omega)
    have H60 := Asd.mk (show l.length ≤ 60 by omega)
    clear h60
    go_enter Try.func3, Try.ntmps3
    go_wp2_with fail
    refine (long_calls _ _ l HD.out HS.out H60.out).mono ?_
    rintro e w7 ⟨rfl, hw⟩
    obtain rfl := hw.symm
    by_cases h8 : 600 < longL l
    · have h8b : decide (600 < longL l) = true := decide_eq_true h8
      have h8c : decide ((longL l : Int) > 600) = true := decide_eq_true (by omega)
      clear h8
      generalize longL l = ll at *
      go_wp2_with fail
      refine (known_calls _).mono ?_
      rintro e w7 ⟨rfl, hb7⟩
      go_wp2_with fail
      go_ret
      exact ⟨rfl, hb7⟩
    · have h8b : decide (600 < longL l) = false := decide_eq_false h8
      have h8c : decide ((longL l : Int) > 600) = false := decide_eq_false (by omega)
      clear h8
      generalize longL l = ll at *
      by_cases h1 : 100 < key.size
      · have h1b : decide (100 < key.size) = true := decide_eq_true h1
        have h1c : decide ((key.size : Int) > 100) = true := decide_eq_true (by omega)
        clear h1
        go_wp2_with fail
        refine (known_calls _).mono ?_
        rintro e w7 ⟨rfl, hb7⟩
        go_wp2_with fail
        go_ret
        exact ⟨rfl, hb7⟩
      have h1b : decide (100 < key.size) = false := decide_eq_false h1
      have h1c : decide ((key.size : Int) > 100) = false := decide_eq_false (by omega)
      clear h1
      go_wp2_with fail
      refine (new_calls w w.heap.size (Nat.le_refl _) 100 100 (by omega)).mono ?_
      rintro e w1 ⟨b, F1, rfl, hT1, hF1, hB1⟩
      have O1 := Asd.mk (Hld.new hT1 hF1 hB1)
      clear hT1 hF1 hB1 h8b
      go_wp2_with fail
      refine (O1.out.addTab 100 (room' := 100) (by omega) NoQ.stab).mono ?_
      rintro e w2 ⟨b2, rfl, o2⟩
      have O2 : Asd (Hld w w2 b 100 (runL 100 l 0) (TabQ w.heap.size b2 100 (runL 100 l 0) NoQ)) := ⟨o2.swap NoQ.stab⟩
      clear o2 O1
      go_wp2_with fail
      go_loopg [9] l.length (fun kq v4 wr => ∃ k : Nat, v4 = .int .i64 (k : Int) ∧ Asd (kq + k = l.length) ∧ Asd (Hld w wr b 100 (runL 100 l k) (TabQ w.heap.size b2 100 (runL 100 l k) NoQ)))
      case atStart => exact ⟨0, rfl, ⟨by omega⟩, O2⟩
      case round =>
        clear O2
        obtain ⟨k, rfl, HK, HO⟩ := hrel
        have hk := HK.out
        cases gk with
        | succ k1 =>
          have hlt : k < l.length := by omega
          have hlt2 : decide (k < l.length) = true := decide_eq_true hlt
          obtain ⟨d, hd⟩ : ∃ d, l[k]? = some d := ⟨_, List.getElem?_eq_getElem hlt⟩
          obtain ⟨A', c', he, _, hr⟩ := HD.out.below HO.out.bel
          injection he with he _ he2
          subst he he2
          obtain ⟨g, off, rfl, hg, hcell⟩ := hr (by omega)
          obtain ⟨c0, c1, c2⟩ := hcell k d hd
          have HR := Asd.mk (runL_succ 100 hd)
          have hks := Nat.le_trans (HS.out d (List.mem_of_getElem? hd)) (show 140737488351232 ≤ 140737488355328 by omega)
          have HDK := Asd.mk hd
          clear hcell hd hk hr
          go_wp2_with fail
          refine (HO.out.did d hks).mono ?_
          rintro e w2 ⟨rfl, ho2⟩
          have HO2 := Asd.mk (ho2.swap NoQ.stab)
          clear ho2 c0 c1 c2
          obtain ⟨c0, c1, c2⟩ := (HD.out.below HO2.out.bel).cells HDK.out
          go_wp2_with fail
          refine (HO2.out.did d hks).mono ?_
          rintro e w3 ⟨rfl, ho3⟩
          have HO3 := Asd.mk (ho3.swap NoQ.stab)
          clear ho3 HO2
          go_wp2_with fail
          go_roundg k1
          case measure => omega
          case rel => exact ⟨k + 1, by go_num, ⟨by have := HK.out; omega⟩, ⟨by rw [HR.out]; exact HO3.out⟩⟩
        | zero =>
          obtain rfl : k = l.length := by omega
          clear hk
          have hlt2 : decide (l.length < l.length) = false := by simp
          have hln := runL_len 100 l l.length
          generalize runL 100 l l.length = L at *
          have HLN := Asd.mk (show L.length ≤ 60 by have := H60.out; omega)
          clear hln
          go_wp2_with fail
          refine (HO.out.peek key hks).mono ?_
          rintro e w3 ⟨rfl, ho3⟩
          have HO3 := Asd.mk ho3
          clear ho3 HO
          unfold peekV
          rcases hlk : look L key with _ | nv
          · have HLK := Asd.mk hlk
            clear hlk
            dsimp only [Option.getD_none, Option.isSome_none]
            go_wp2_with fail
            refine (HO3.out.keys2 NoQ.stab).mono ?_
            rintro e w4 ⟨vk, rfl, ho4⟩
            have HO4 := Asd.mk ho4
            clear ho4 HO3
            go_wp2_with fail
            have hput := HO4.out.put key n hks
            have hpl : putL 100 L key n = (L ++ [(key, n)], true) := by
              unfold putL
              rw [if_pos (by have := HLN.out; simp; omega), without_absent (look_eq_none.1 HLK.out)]
            rw [hpl] at hput
            refine hput.mono ?_
            clear hput hpl
            rintro e w5 ⟨rfl, ho5⟩
            have HO5 := Asd.mk ho5
            clear ho5 HO4
            dsimp only
            go_wp2_with fail
            have hdel := HO5.out.del key hks
            have hd1 : without (L ++ [(key, n)]) key = L := by
              have h1 := without_absent (look_eq_none.1 HLK.out)
              unfold without at h1 ⊢
              rw [List.filter_append, h1]
              simp
            have hd2 : (look (L ++ [(key, n)]) key).isSome = true := look_isSome.2 (by simp)
            rw [hd1, hd2] at hdel
            refine hdel.mono ?_
            clear hdel hd1 hd2
            rintro e w6 ⟨rfl, ho6⟩
            have HO6 := Asd.mk ho6
            clear ho6 HO5
            go_wp2_with fail
            have hdel := HO6.out.del key hks
            rw [without_absent (look_eq_none.1 HLK.out), HLK.out] at hdel
            refine hdel.mono ?_
            clear hdel
            rintro e w7 ⟨rfl, ho7⟩
            have HO7 := Asd.mk ho7
            clear ho7 HO6
            dsimp only [Option.isSome_none]
            go_wp2_with fail
            obtain ⟨Ak, ck, rfl, _, _⟩ := HO7.out.str2
            rw [List.length_map] at *
            go_loopg [13] L.length (fun kq v13 wr => ∃ k : Nat, v13 = .int .i64 (k : Int) ∧ Asd (kq + k = L.length) ∧ Asd (Hld w wr b 100 L (TabQ w.heap.size b2 100 L (StrQ (.slice Ak L.length ck) (L.map (·.1)) NoQ))))
            case atStart => exact ⟨0, rfl, ⟨by omega⟩, HO7⟩
            case round =>
              clear HO7
              obtain ⟨k, rfl, HK2, HO8⟩ := hrel
              cases gk with
              | zero =>
                obtain rfl : k = L.length := by have := HK2.out; omega
                have hlt3 : decide (L.length < L.length) = false := by simp
                go_wp2_with fail
                refine HO8.out.keys.mono ?_
                rintro e w8 ⟨v8, rfl, ho9⟩
                have HO9 := Asd.mk ho9
                clear ho9 HO8
                go_wp2_with fail
                have HO9b := Asd.mk (HO9.out.weak (TabQ.stab (StrQ.stab NoQ.stab)))
                refine (same_calls _ _ _ _ _ HO9.out.str HO9b.out.str2).mono ?_
                rintro e w9 ⟨rfl, m9, rfl⟩
                have HO10 := Asd.mk ((HO9b.out.drewN m9).swap (StrQ.stab NoQ.stab))
                rw [decide_eq_true rfl]
                generalize w8.drewN m9 = w9 at *
                clear HO9 HO9b
                go_wp2_with fail
                refine HO10.out.keys.mono ?_
                rintro e w10 ⟨v10, rfl, ho11⟩
                have HO11 := Asd.mk ho11
                clear ho11 HO10
                go_wp2_with fail
                have HO11b := Asd.mk (HO11.out.weak (TabQ.stab (StrQ.stab NoQ.stab)))
                refine (same_calls _ _ _ _ _ HO11.out.str HO11b.out.str2).mono ?_
                rintro e w11 ⟨rfl, m11, rfl⟩
                have HO12 := Asd.mk (HO11b.out.drewN m11)
                rw [decide_eq_true rfl]
                generalize w10.drewN m11 = w11 at *
                clear HO11 HO11b
                go_wp2_with fail
                refine (known_calls _).mono ?_
                rintro e w12 ⟨rfl, hb12⟩
                have HO13 := Asd.mk (HO12.out.below hb12)
                clear hb12 HO12
                go_wp2_with fail
                go_ret
                exact ⟨rfl, HO13.out.bel⟩
              | succ k1 =>
                have hlt3 : k < L.length := by have := HK2.out; omega
                have hlt4 : decide (k < L.length) = true := decide_eq_true hlt3
                obtain ⟨⟨ki, ni⟩, hq⟩ : ∃ q, L[k]? = some q := ⟨_, List.getElem?_eq_getElem hlt3⟩
                have hksi : ki.size ≤ 140737488355328 := HO8.out.good.ks (ki, ni) (List.mem_of_getElem? hq)
                have HQ : Asd ((L.map (·.1))[k]? = some ki) := ⟨by rw [List.getElem?_map, hq]; rfl⟩
                clear hq
                obtain ⟨g4, rfl, hg4, hck⟩ := HO8.out.str2.cell HQ.out
                go_wp2_with fail
                refine (HO8.out.peek ki hksi).mono ?_
                rintro e w8 ⟨rfl, ho9⟩
                have HO9 := Asd.mk (ho9.swap (StrQ.stab NoQ.stab))
                clear ho9 HO8 hck
                have hck := HO9.out.str2.cells HQ.out
                unfold peekV
                generalize hnv : (look L ki).getD 0 = nv
                generalize hbv : (look L ki).isSome = bv
                have HLV := Asd.mk (And.intro hnv hbv)
                clear hnv hbv
                go_wp2_with fail
                refine (HO9.out.peek ki hksi).mono ?_
                rintro e w9 ⟨rfl, ho10⟩
                have HO10 := Asd.mk (ho10.swap (StrQ.stab NoQ.stab))
                clear ho10 HO9 hck
                unfold peekV
                rw [HLV.out.1, HLV.out.2]
                have t1 : (nv != nv) = false := by simp
                have t2 : (bv != bv) = false := by simp
                go_wp2_with fail
                go_roundg k1
                case measure => omega
                case rel => exact ⟨k + 1, by go_num, ⟨by have := HK2.out; omega⟩, HO10⟩
          · clear hlk
            dsimp only [Option.getD_some, Option.isSome_some]
            go_wp2_with fail
            refine (known_calls _).mono ?_
            rintro e w7 ⟨rfl, hb7⟩
            have HO4 := Asd.mk (HO3.out.below hb7)
            clear hb7
            go_wp2_with fail
            go_ret
            exact ⟨rfl, HO4.out.bel⟩
end Go.Proofs.Ytapclgjelekijaa
