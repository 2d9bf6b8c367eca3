import Derived.Test.YtapclgjelekijaaD1
/-! TablePeeks: the walk. -/
namespace Go.Proofs.Ytapclgjelekijaa
open Go.RowKit
set_option linter.unusedSimpArgs false
set_option linter.unusedVariables false

theorem getL_keys (L : List (ByteArray × Int)) (key : ByteArray) : (getL L key).map (·.1) = (L.map (·.1)).filter (· ≠ key) ++ if (look L key).isSome then [key] else [] := by
  unfold getL
  cases h : look L key with
  | none =>
    have h1 := look_eq_none.1 h
    rw [← without_keys, without_absent h1]
    simp
  | some n =>
    simp only [List.map_append, without_keys]
    simp
theorem below_grown {w wr w8 : World} {o : Obj} {v : Value} {n : Nat} {xs : List Value} {e : TypeId} {size : Nat} (hB : Below w.heap.size w wr) (hr : wr.ownsRow w.heap.size e size v n xs) (hg : (wr.alloc o).grownBy w8 v.ownBlock) : Below w.heap.size w w8 :=
  ((((Fr.refl (fun _ => False) w).below hB).alloc o).grown hg fun k hk => .inr (hr.lt k hk).1).below_of (Nat.le_refl _) fun k hk => hk.elim
set_option maxRecDepth 20000 in
set_option maxHeartbeats 8000000 in
theorem peeks_law (w : World) (v0 : Value) (l : List Act3) (H : DoAt w v0 l) (hs : ∀ d, d ∈ l → d.key.size ≤ 140737488351232) (key : ByteArray) (hky : key.size ≤ 140737488351232) :
    Calls Try.prog 4 #[v0, .string key] w fun e w' => e = .returned (.bool true) ∧ Below w.heap.size w w' := by
  have hks : key.size ≤ 140737488355328 := by omega
  have HD := Asd.mk H
  obtain ⟨A, c, rfl, hm, hr⟩ := H
  have HS := Asd.mk hs
  clear hr hs
  by_cases h60 : 60 < l.length
  · have h60b : decide (60 < l.length) = true := decide_eq_true h60
    have h60c : decide ((l.length : Int) > 60) = true := decide_eq_true (by omega)
    clear h60
    go_enter Try.func4, Try.ntmps4
    go_wp2_with fail
    refine (known_calls _).mono ?_
    rintro e w7 ⟨rfl, hb7⟩
    go_wp2_with fail
    go_ret
    exact ⟨rfl, hb7⟩
  · have h60b : decide (60 < l.length) = false := decide_eq_false h60
    have h60c : decide ((l.length : Int) > 60) = false := decide_eq_false (by omega)
    have H60 := Asd.mk (show l.length ≤ 60 by omega)
    clear h60
    go_enter Try.func4, Try.ntmps4
    go_wp2_with fail
    refine (long_calls _ _ l HD.out HS.out H60.out).mono ?_
    rintro e w7 ⟨rfl, hw⟩
    obtain rfl := hw.symm
    by_cases h8 : 800 < longL l
    · have h8b : decide (800 < longL l) = true := decide_eq_true h8
      have h8c : decide ((longL l : Int) > 800) = true := decide_eq_true (by omega)
      clear h8
      generalize longL l = ll at *
      go_wp2_with fail
      refine (known_calls _).mono ?_
      rintro e w7 ⟨rfl, hb7⟩
      go_wp2_with fail
      go_ret
      exact ⟨rfl, hb7⟩
    · have h8b : decide (800 < longL l) = false := decide_eq_false h8
      have h8c : decide ((longL l : Int) > 800) = false := decide_eq_false (by omega)
      clear h8
      generalize longL l = ll at *
      by_cases h1 : 100 < key.size
      · have h1b : decide (100 < key.size) = true := decide_eq_true h1
        have h1c : decide ((key.size : Int) > 100) = true := decide_eq_true (by omega)
        clear h1
        go_wp2_with fail
        refine (known_calls _).mono ?_
        rintro e w7 ⟨rfl, hb7⟩
        go_wp2_with fail
        go_ret
        exact ⟨rfl, hb7⟩
      have h1b : decide (100 < key.size) = false := decide_eq_false h1
      have h1c : decide ((key.size : Int) > 100) = false := decide_eq_false (by omega)
      clear h1
      go_wp2_with fail
      refine (new_calls w w.heap.size (Nat.le_refl _) 50 50 (by omega)).mono ?_
      rintro e w1 ⟨b, F1, rfl, hT1, hF1, hB1⟩
      have O1 := Asd.mk (Hld.new hT1 hF1 hB1)
      clear hT1 hF1 hB1 h8b
      go_wp2_with fail
      go_loopg [6] l.length (fun kq v4 wr => ∃ k : Nat, v4 = .int .i64 (k : Int) ∧ Asd (kq + k = l.length) ∧ Asd (Hld w wr b 50 (runL 50 l k) NoQ))
      case atStart => exact ⟨0, rfl, ⟨by omega⟩, O1⟩
      case round =>
        clear O1
        obtain ⟨k, rfl, HK, HO⟩ := hrel
        have hk := HK.out
        cases gk with
        | succ k1 =>
          have hlt : k < l.length := by omega
          have hlt2 : decide (k < l.length) = true := decide_eq_true hlt
          obtain ⟨d, hd⟩ : ∃ d, l[k]? = some d := ⟨_, List.getElem?_eq_getElem hlt⟩
          obtain ⟨A', c', he, _, hr⟩ := HD.out.below HO.out.bel
          injection he with he _ he2
          subst he he2
          obtain ⟨g, off, rfl, hg, hcell⟩ := hr (by omega)
          obtain ⟨c0, c1, c2⟩ := hcell k d hd
          have HR := Asd.mk (runL_succ 50 hd)
          have hks := Nat.le_trans (HS.out d (List.mem_of_getElem? hd)) (show 140737488351232 ≤ 140737488355328 by omega)
          clear hcell hd hk hr
          go_wp2_with fail
          refine (HO.out.did d hks).mono ?_
          rintro e w2 ⟨rfl, ho2⟩
          have HO2 := Asd.mk ho2
          clear ho2
          go_wp2_with fail
          go_roundg k1
          case measure => omega
          case rel => exact ⟨k + 1, by go_num, ⟨by have := HK.out; omega⟩, ⟨by rw [HR.out]; exact HO2.out⟩⟩
        | zero =>
          obtain rfl : k = l.length := by omega
          clear hk
          have hlt2 : decide (l.length < l.length) = false := by simp
          go_wp2_with fail
          refine HO.out.keys.mono ?_
          rintro e w2 ⟨vk, rfl, ho2⟩
          generalize runL 50 l l.length = L at *
          have hL := ho2.good
          obtain ⟨Ak, ck, rfl, hmk, hrk⟩ := ho2.str
          rw [List.length_map] at *
          have HG := Asd.mk hL
          have HO2 := Asd.mk ho2
          clear ho2 hrk HO hL
          go_wp2_with fail
          refine (HO2.out.peek key hks).mono ?_
          rintro e w3 ⟨rfl, ho3⟩
          have HO3 := Asd.mk ho3
          clear ho3 HO2
          unfold peekV
          go_wp2_with fail
          refine HO3.out.keys.mono ?_
          rintro e w4 ⟨v4, rfl, ho4⟩
          have HO4 := Asd.mk ho4
          clear ho4 HO3
          go_wp2_with fail
          refine (same_calls _ _ _ _ _ HO4.out.str (HO4.out.weak (StrQ.stab NoQ.stab)).str).mono ?_
          rintro e w5 ⟨rfl, m5, rfl⟩
          have HO5 := Asd.mk ((HO4.out.weak (StrQ.stab NoQ.stab)).drewN m5)
          rw [decide_eq_true rfl]
          generalize w4.drewN m5 = w5 at *
          clear HO4
          go_wp2_with fail
          refine (HO5.out.get key hks).mono ?_
          rintro e w6 ⟨rfl, ho6⟩
          have HO6 := Asd.mk ho6
          clear ho6 HO5
          have HF := Asd.mk (getL_keys L key)
          unfold peekV
          have HLK := Asd.mk (@look_isSome L key)
          generalize (look L key).getD 0 = nv at *
          generalize (look L key).isSome = bv at *
          have t1 : (nv != nv) = false := by simp
          have t2 : (bv != bv) = false := by simp
          generalize getL L key = L2 at *
          go_upto_region 15 with (fail)
          go_wp2_with fail
          obtain ⟨wl, hwl⟩ : ∃ wl : Nat → List ByteArray, wl = fun k => ((L.map (·.1)).take k).filter (· ≠ key) := ⟨_, rfl⟩
          have HWL := Asd.mk hwl
          clear hwl
          go_loopg [12, 13] L.length (fun kq v12 v13 wr => ∃ k : Nat, v13 = .int .i64 (k : Int) ∧ Asd (kq + k = L.length) ∧ Asd (Below w6.heap.size w6 wr) ∧ Asd (wr.ownsRow w6.heap.size 9 1 v12 (wl k).length ((wl k).map Value.string)))
          case atStart =>
            refine ⟨0, rfl, ⟨by omega⟩, ⟨Below.refl _ _⟩, ⟨?_⟩⟩
            rw [HWL.out]
            exact World.ownsRow_nil _ _ _ _
          case round =>
            obtain ⟨k, rfl, HK2, HB2, HR2⟩ := hrel
            cases gk with
            | zero =>
              obtain rfl : k = L.length := by have := HK2.out; omega
              have hlt3 : decide (L.length < L.length) = false := by simp
              have hwf : wl L.length = (L.map (·.1)).filter (· ≠ key) := by
                rw [HWL.out]
                simp only []
                rw [List.take_of_length_le (by simp)]
              obtain ⟨i0, hi, hz0, hz1, hz2⟩ := info_parts info9
              have hwn : (wl L.length).length ≤ 50 := by
                rw [hwf]
                have h1 := HG.out.le
                have h2 := List.length_filter_le (fun x => decide (x ≠ key)) (L.map (·.1))
                have h4 : (L.map (·.1)).length = L.length := List.length_map ..
                omega
              have HWF := Asd.mk hwf
              have hbs := HB2.out.size
              have hwm : ((wl L.length).map Value.string).length = (wl L.length).length := List.length_map ..
              clear hwf
              generalize wl L.length = W at *
              cases bv with
              | true =>
                have HEQ : Asd (L2.map (·.1) = W ++ [key]) := ⟨by rw [HF.out, HWF.out]; rfl⟩
                go_wp2_with (at_builtin; refine wpList_append_own_at _ rfl _ _ 32 rfl w6.heap.size 9 i0 (.string ⟨#[]⟩) 1 16 Try.underlying32 hi hz0 hz1 hz2 rfl (by decide) _ W.length _ rfl (HR2.out.alloc _) ⟨wr.heap.size, 0, none⟩ 1 1 [.string key] rfl rfl (World.news_of_block (cs := #[.string key]) (t := 9) (fr := (0, 0)) (heap_alloc_new _ _)) (by simp [Value.oneCell']) (by simp only [maxLen]; omega) (by omega) (by simp; omega) ?_; intro v1 w8 hown hg _ hat; obtain ⟨g1, c1, rfl, _⟩ := own_form hown (by omega); have HB8 := Asd.mk (below_grown HB2.out HR2.out hg); have HR8 := Asd.mk hown; clear hown hg hat)
                have HOE : Asd (Hld w w8 b 50 L2 (StrQ (.slice (some ⟨g1, 0, none⟩) (W.length + 1) c1) (W ++ [key]) (StrQ (.slice Ak L.length ck) (L.map (·.1)) NoQ))) := ⟨HO6.out.addStr HB8.out (n := W.length + 1) (by rw [List.map_append]; exact HR8.out)⟩
                clear HB8 HR8
                refine HOE.out.keys.mono ?_
                rintro e w9 ⟨v9, rfl, ho9⟩
                have HO9 := Asd.mk ho9
                clear ho9
                go_wp2_with fail
                refine (same_calls _ _ _ _ _ HO9.out.str (HO9.out.weak (StrQ.stab (StrQ.stab NoQ.stab))).str).mono ?_
                rintro e w10 ⟨rfl, m10, rfl⟩
                have HO10 := Asd.mk (HO9.out.drewN m10)
                rw [decide_eq_true HEQ.out]
                generalize w9.drewN m10 = w10 at *
                clear HO9
                go_wp2_with fail
                refine (known_calls _).mono ?_
                rintro e w11 ⟨rfl, hb11⟩
                have HO11 := Asd.mk (HO10.out.below hb11)
                clear hb11 HO10
                go_wp2_with fail
                go_ret
                exact ⟨rfl, HO11.out.bel⟩
              | false =>
                have HEQ : Asd (L2.map (·.1) = W) := ⟨by rw [HF.out, HWF.out]; simp⟩
                have HOE : Asd (Hld w wr b 50 L2 (StrQ u12 W (StrQ (.slice Ak L.length ck) (L.map (·.1)) NoQ))) := ⟨HO6.out.addStr HB2.out (n := W.length) HR2.out⟩
                go_wp2_with fail
                refine HOE.out.keys.mono ?_
                rintro e w9 ⟨v9, rfl, ho9⟩
                have HO9 := Asd.mk ho9
                clear ho9
                go_wp2_with fail
                refine (same_calls _ _ _ _ _ HO9.out.str (HO9.out.weak (StrQ.stab (StrQ.stab NoQ.stab))).str).mono ?_
                rintro e w10 ⟨rfl, m10, rfl⟩
                have HO10 := Asd.mk (HO9.out.drewN m10)
                rw [decide_eq_true HEQ.out]
                generalize w9.drewN m10 = w10 at *
                clear HO9
                go_wp2_with fail
                refine (known_calls _).mono ?_
                rintro e w11 ⟨rfl, hb11⟩
                have HO11 := Asd.mk (HO10.out.below hb11)
                clear hb11 HO10
                go_wp2_with fail
                go_ret
                exact ⟨rfl, HO11.out.bel⟩
            | succ k1 =>
              have hlt3 : k < L.length := by have := HK2.out; omega
              have hlt4 : decide (k < L.length) = true := decide_eq_true hlt3
              obtain ⟨⟨ki, ni⟩, hq⟩ : ∃ q, L[k]? = some q := ⟨_, List.getElem?_eq_getElem hlt3⟩
              have hqk : (L.map (·.1))[k]? = some ki := by rw [List.getElem?_map, hq]; rfl
              obtain ⟨A4, c4, he4, _, hr4⟩ := (HO6.out.below HB2.out).str
              rw [List.length_map] at he4 hr4
              injection he4 with he4 _ he5
              subst he4 he5
              obtain ⟨g4, rfl, hg4, hc4⟩ := hr4 (by omega)
              have hck := hc4 k ki hqk
              have HQ := Asd.mk hqk
              clear hc4 hr4 hq hqk
              by_cases hke : ki = key
              · have b1 : (ki.toList != key.toList) = false := by rw [hke]; simp
                have b2 : (ki.toList == key.toList) = true := by rw [hke]; simp
                have HKE := Asd.mk hke
                clear hke
                go_wp2_with fail
                go_roundg k1
                case measure => omega
                case rel => exact ⟨k + 1, by go_num, ⟨by have := HK2.out; omega⟩, HB2, ⟨by
                  rw [show wl (k + 1) = wl k by rw [HWL.out]; simp only []; rw [List.take_add_one, HQ.out, List.filter_append]; simp [HKE.out]]
                  exact HR2.out⟩⟩
              · have b1 : (ki.toList != key.toList) = true := by
                  rw [bne_iff_ne]
                  intro e
                  exact hke (ByteArray.ext (by simpa [ByteArray.toList_eq] using e))
                have b2 : (ki.toList == key.toList) = false := by
                  rw [beq_eq_false_iff_ne]
                  intro e
                  exact hke (ByteArray.ext (by simpa [ByteArray.toList_eq] using e))
                have HKE := Asd.mk hke
                clear hke
                obtain ⟨i0, hi, hz0, hz1, hz2⟩ := info_parts info9
                have hwn : (wl k).length ≤ 50 := by
                  rw [HWL.out]
                  have h1 := HG.out.le
                  have h2 := List.length_filter_le (fun x => decide (x ≠ key)) ((L.map (·.1)).take k)
                  have h3 := List.length_take_le k (L.map (·.1))
                  have h4 : (L.map (·.1)).length = L.length := List.length_map ..
                  have h5 := List.length_take_le' k (L.map (·.1))
                  simp only [] at *
                  omega
                have HW1 : Asd (wl (k + 1) = wl k ++ [ki]) := ⟨by rw [HWL.out]; simp only []; rw [List.take_add_one, HQ.out, List.filter_append]; simp [HKE.out]⟩
                have hbs := HB2.out.size
                have hwm : ((wl k).map Value.string).length = (wl k).length := List.length_map ..
                generalize wl k = W at *
                go_wp2_with (at_builtin; refine wpList_append_own_at _ rfl _ _ 32 rfl w6.heap.size 9 i0 (.string ⟨#[]⟩) 1 16 Try.underlying32 hi hz0 hz1 hz2 rfl (by decide) _ W.length _ rfl (HR2.out.alloc _) ⟨wr.heap.size, 0, none⟩ 1 1 [.string ki] rfl rfl (World.news_of_block (cs := #[.string ki]) (t := 9) (fr := (0, 0)) (heap_alloc_new _ _)) (by simp [Value.oneCell']) (by simp only [maxLen]; omega) (by omega) (by simp; omega) ?_; intro v1 w8 hown hg _ hat; obtain ⟨g1, c1, rfl, _⟩ := own_form hown (by omega); have HB8 := Asd.mk (below_grown HB2.out HR2.out hg); have HR8 := Asd.mk hown; clear hown hg hat)
                go_roundg k1
                case measure => omega
                case rel =>
                  refine ⟨k + 1, by go_num, ⟨by have := HK2.out; omega⟩, HB8, ⟨?_⟩⟩
                  rw [HW1.out, List.length_append, List.map_append]
                  exact HR8.out
end Go.Proofs.Ytapclgjelekijaa
