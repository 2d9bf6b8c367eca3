import Derived.Test.YtapclgjelekijaaD0
/-! TableOldest: the walk. -/
namespace Go.Proofs.Ytapclgjelekijaa
open Go.RowKit
set_option linter.unusedSimpArgs false
set_option linter.unusedVariables false

/-- The list after so many acts. -/
def runL (room : Nat) (l : List Act3) (k : Nat) : List (ByteArray × Int) := (l.take k).foldl (fun L d => (doL room L d).1) []
theorem runL_succ (room : Nat) {l : List Act3} {k : Nat} {d : Act3} (h : l[k]? = some d) : runL room l (k + 1) = (doL room (runL room l k) d).1 := by
  unfold runL
  rw [List.take_add_one, h, List.foldl_append]
  rfl

set_option maxRecDepth 20000 in
set_option maxHeartbeats 8000000 in
theorem oldest_law (w : World) (v0 : Value) (l : List Act3) (H : DoAt w v0 l) (hs : ∀ d, d ∈ l → d.key.size ≤ 140737488351232) :
    Calls Try.prog 7 #[v0] w fun e w' => e = .returned (.bool true) ∧ Below w.heap.size w w' := by
  have HD := Asd.mk H
  obtain ⟨A, c, rfl, hm, hr⟩ := H
  have HS := Asd.mk hs
  clear hr hs
  by_cases h60 : 60 < l.length
  · have h60b : decide (60 < l.length) = true := decide_eq_true h60
    have h60c : decide ((l.length : Int) > 60) = true := decide_eq_true (by omega)
    clear h60
    go_enter Try.func7, Try.ntmps7
    go_wp2_with fail
    refine (known_calls _).mono ?_
    rintro e w7 ⟨rfl, hb7⟩
    go_wp2_with fail
    go_ret
    exact ⟨rfl, hb7⟩
  · have h60b : decide (60 < l.length) = false := decide_eq_false h60
    have h60c : decide ((l.length : Int) > 60) = false := decide_eq_false (by omega)
    have H60 := Asd.mk (show l.length ≤ 60 by omega)
    clear h60
    go_enter Try.func7, Try.ntmps7
    go_wp2_with fail
    refine (long_calls _ _ l HD.out HS.out H60.out).mono ?_
    rintro e w7 ⟨rfl, hw⟩
    obtain rfl := hw.symm
    by_cases h8 : 800 < longL l
    · have h8b : decide (800 < longL l) = true := decide_eq_true h8
      have h8c : decide ((longL l : Int) > 800) = true := decide_eq_true (by omega)
      clear h8
      generalize longL l = ll at *
      go_wp2_with fail
      refine (known_calls _).mono ?_
      rintro e w7 ⟨rfl, hb7⟩
      go_wp2_with fail
      go_ret
      exact ⟨rfl, hb7⟩
    · have h8b : decide (800 < longL l) = false := decide_eq_false h8
      have h8c : decide ((longL l : Int) > 800) = false := decide_eq_false (by omega)
      clear h8
      generalize longL l = ll at *
      go_wp2_with fail
      refine (new_calls w w.heap.size (Nat.le_refl _) 50 50 (by omega)).mono ?_
      rintro e w1 ⟨b, F1, rfl, hT1, hF1, hB1⟩
      have O1 := Asd.mk (Hld.new hT1 hF1 hB1)
      clear hT1 hF1 hB1 h8b
      go_wp2_with fail
      go_loopg [4] l.length (fun kq v4 wr => ∃ k : Nat, v4 = .int .i64 (k : Int) ∧ Asd (kq + k = l.length) ∧ Asd (Hld w wr b 50 (runL 50 l k) NoQ))
      case atStart => exact ⟨0, rfl, ⟨by omega⟩, O1⟩
      case round =>
        clear O1
        obtain ⟨k, rfl, HK, HO⟩ := hrel
        have hk := HK.out
        cases gk with
        | succ k1 =>
          have hlt : k < l.length := by omega
          have hlt2 : decide (k < l.length) = true := decide_eq_true hlt
          obtain ⟨d, hd⟩ : ∃ d, l[k]? = some d := ⟨_, List.getElem?_eq_getElem hlt⟩
          obtain ⟨A', c', he, _, hr⟩ := HD.out.below HO.out.bel
          injection he with he _ he2
          subst he he2
          obtain ⟨g, off, rfl, hg, hcell⟩ := hr (by omega)
          obtain ⟨c0, c1, c2⟩ := hcell k d hd
          have HR := Asd.mk (runL_succ 50 hd)
          have hks := Nat.le_trans (HS.out d (List.mem_of_getElem? hd)) (show 140737488351232 ≤ 140737488355328 by omega)
          clear hcell hd hk hr
          go_wp2_with fail
          refine (HO.out.did d hks).mono ?_
          rintro e w2 ⟨rfl, ho2⟩
          have HO2 := Asd.mk ho2
          clear ho2
          go_wp2_with fail
          go_roundg k1
          case measure => omega
          case rel => exact ⟨k + 1, by go_num, ⟨by have := HK.out; omega⟩, ⟨by rw [HR.out]; exact HO2.out⟩⟩
        | zero =>
          obtain rfl : k = l.length := by omega
          clear hk
          have hlt2 : decide (l.length < l.length) = false := by simp
          go_wp2_with fail
          refine HO.out.keys.mono ?_
          rintro e w2 ⟨vk, rfl, ho2⟩
          have hL := ho2.good
          generalize runL 50 l l.length = L at *
          obtain ⟨Ak, ck, rfl, hmk, hrk⟩ := ho2.str
          rw [List.length_map] at *
          have HG := Asd.mk hL
          have HO2 := Asd.mk ho2
          clear ho2 hrk HO hL
          go_wp2_with fail
          go_loopg [6] L.length (fun kq v6 wr => ∃ k : Nat, v6 = .int .i64 (k : Int) ∧ Asd (kq + k = L.length) ∧ Asd (Hld w wr b 50 (L.drop k) (StrQ (.slice Ak L.length ck) (L.map (·.1)) NoQ)))
          case atStart => exact ⟨0, rfl, ⟨by omega⟩, HO2⟩
          case round =>
            clear HO2
            obtain ⟨k, rfl, HK2, HO3⟩ := hrel
            cases gk with
            | zero =>
              obtain rfl : k = L.length := by have := HK2.out; omega
              have hlt3 : decide (L.length < L.length) = false := by simp
              have HO4 : Asd (Hld w wr b 50 [] (StrQ (.slice Ak L.length ck) (L.map (·.1)) NoQ)) := ⟨by have := HO3.out; rwa [List.drop_length] at this⟩
              clear HO3
              go_wp2_with fail
              refine HO4.out.oldest.mono ?_
              rintro e w3 ⟨rfl, ho5⟩
              have HO5 := Asd.mk ho5
              clear ho5 HO4
              unfold oldV
              go_wp2_with fail
              refine HO5.out.len.mono ?_
              rintro e w4 ⟨rfl, ho6⟩
              have HO6 := Asd.mk ho6
              clear ho6 HO5
              go_wp2_with fail
              refine HO6.out.keys.mono ?_
              rintro e w5 ⟨v5, rfl, ho7⟩
              obtain ⟨A5, c5, rfl, _, _⟩ := ho7.str
              have HO7 := Asd.mk ho7
              clear ho7 HO6
              go_wp2_with fail
              refine (known_calls _).mono ?_
              rintro e w6 ⟨rfl, hb6⟩
              have HO8 := Asd.mk (HO7.out.below hb6)
              clear hb6 HO7
              go_wp2_with fail
              go_ret
              exact ⟨rfl, HO8.out.bel⟩
            | succ k1 =>
              have hlt3 : k < L.length := by have := HK2.out; omega
              have hlt4 : decide (k < L.length) = true := decide_eq_true hlt3
              obtain ⟨⟨key, n⟩, hq⟩ : ∃ q, L[k]? = some q := ⟨_, List.getElem?_eq_getElem hlt3⟩
              have hdr : L.drop k = (key, n) :: L.drop (k + 1) := by
                rw [List.drop_eq_getElem_cons hlt3]
                congr 1
                rw [List.getElem?_eq_getElem hlt3] at hq
                injection hq
              have hgd := HO3.out.good
              rw [hdr] at hgd
              have hks : key.size ≤ 140737488355328 := hgd.ks (key, n) (by simp)
              have hlk : look ((key, n) :: L.drop (k + 1)) key = some n := by simp [look]
              have hwo : without ((key, n) :: L.drop (k + 1)) key = L.drop (k + 1) := by
                have h1 := hgd.nd
                rw [List.map_cons, List.nodup_cons] at h1
                have h2 := without_absent h1.1
                unfold without at h2 ⊢
                rw [List.filter_cons_of_neg (by simp)]
                exact h2
              have hlen : ((L.drop (k + 1)).length : Int) = (L.length : Int) - (k : Int) - 1 := by rw [List.length_drop]; omega
              have HF := Asd.mk (And.intro hlk (And.intro hwo hlen))
              have HO4 : Asd (Hld w wr b 50 ((key, n) :: L.drop (k + 1)) (StrQ (.slice Ak L.length ck) (L.map (·.1)) NoQ)) := ⟨by have := HO3.out; rwa [hdr] at this⟩
              have hqk : (L.map (·.1))[k]? = some key := by rw [List.getElem?_map, hq]; rfl
              have HQ := Asd.mk hqk
              clear hq hdr hgd hlk hwo hlen HO3 hqk
              go_wp2_with fail
              refine HO4.out.oldest.mono ?_
              rintro e w3 ⟨rfl, ho5⟩
              have HO5 := Asd.mk ho5
              clear ho5 HO4
              unfold oldV
              dsimp only
              go_wp2_with fail
              refine (HO5.out.peek key hks).mono ?_
              rintro e w4 ⟨rfl, ho6⟩
              have HO6 := Asd.mk ho6
              clear ho6 HO5
              unfold peekV
              rw [HF.out.1]
              dsimp only [Option.getD_some, Option.isSome_some]
              obtain ⟨A4, c4, he4, _, hr4⟩ := HO6.out.str
              rw [List.length_map] at he4 hr4
              injection he4 with he4 _ he5
              subst he4 he5
              obtain ⟨g4, rfl, hg4, hc4⟩ := hr4 (by omega)
              have hck := hc4 k key HQ.out
              clear hc4 hr4
              go_wp2_with fail
              have hdel := HO6.out.del key hks
              rw [HF.out.1, HF.out.2.1] at hdel
              refine hdel.mono ?_
              clear hdel
              rintro e w5 ⟨rfl, ho7⟩
              have HO7 := Asd.mk ho7
              clear ho7 HO6 hck
              dsimp only [Option.isSome_some]
              go_wp2_with fail
              refine HO7.out.len.mono ?_
              rintro e w6 ⟨rfl, ho8⟩
              have HO8 := Asd.mk ho8
              clear ho8 HO7
              rw [HF.out.2.2]
              have hw1 : IntKind.i64.wrap ((L.length : Int) - (k : Int)) = (L.length : Int) - (k : Int) := IntWalk.i64_in _ (by omega)
              have hw2 : IntKind.i64.wrap ((L.length : Int) - (k : Int) - 1) = (L.length : Int) - (k : Int) - 1 := IntWalk.i64_in _ (by omega)
              go_wp2_with fail
              go_roundg k1
              case measure => omega
              case rel => exact ⟨k + 1, by go_num, ⟨by have := HK2.out; omega⟩, HO8⟩
end Go.Proofs.Ytapclgjelekijaa
