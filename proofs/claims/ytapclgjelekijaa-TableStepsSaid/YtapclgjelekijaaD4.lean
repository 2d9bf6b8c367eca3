import Derived.Test.YtapclgjelekijaaD3
/-! TableRoom: the walk. -/
namespace Go.Proofs.Ytapclgjelekijaa
open Go.RowKit
set_option linter.unusedSimpArgs false
set_option linter.unusedVariables false

/-- A block off the table that stays. -/
def BlkQ (g : Nat) (o : Obj) (Q : World → (Nat → Prop) → Prop) : World → (Nat → Prop) → Prop := fun w F => (w.heap[g]? = some o ∧ ¬ F g) ∧ Q w F
theorem BlkQ.stab {g : Nat} {o : Obj} {Q : World → (Nat → Prop) → Prop} (hQ : Stab Q) : Stab (BlkQ g o Q) := by
  rintro wr w' F F' ⟨⟨h1, h2⟩, hq⟩ hf hF
  have h3 : g < wr.heap.size := (Array.getElem?_eq_some_iff.1 h1).1
  refine ⟨⟨(hf.block g h3 h2).trans h1, fun hh => ?_⟩, hQ wr w' F F' hq hf hF⟩
  rcases hF g hh with h | h
  · exact h2 h
  · omega
section
variable {w wr : World} {b room : Nat} {L : List (ByteArray × Int)} {Q : World → (Nat → Prop) → Prop}
theorem Hld.alloc (H : Hld w wr b room L Q) (o : Obj) : Hld w (wr.alloc o) b room L (BlkQ wr.heap.size o Q) := by
  obtain ⟨⟨F, hT, hF, hq⟩, hB, hs, hg⟩ := H
  have hb : Below wr.heap.size wr (wr.alloc o) := (Below.refl _ wr).alloc (Nat.le_refl _) o
  exact ⟨⟨F, hT.below hb, fun k hk => ⟨(hF k hk).1, Nat.lt_of_lt_of_le (hF k hk).2 hb.size⟩, ⟨heap_alloc_new _ _, fun h => Nat.lt_irrefl _ (hF _ h).2⟩, hs _ _ _ _ hq ((Fr.refl F wr).below hb) fun k hk => .inl hk⟩, hB.trans (hb.mono hB.size), BlkQ.stab hs, hg⟩
theorem Hld.blk {g : Nat} {o : Obj} (H : Hld w wr b room L (BlkQ g o Q)) : wr.heap[g]? = some o := by
  obtain ⟨F, _, _, h⟩ := H.tab
  exact h.1.1
theorem Hld.weakB {g : Nat} {o : Obj} (H : Hld w wr b room L (BlkQ g o Q)) (hQ : Stab Q) : Hld w wr b room L Q := by
  obtain ⟨⟨F, hT, hF, hq⟩, hB, hs, hg⟩ := H
  exact ⟨⟨F, hT, hF, hq.2⟩, hB, hQ, hg⟩
end
theorem nextL_get : ∀ {L : List (ByteArray × Int)} {j : Nat} {q : ByteArray × Int}, (L.map (·.1)).Nodup → L[j]? = some q → nextL L q.1 = (L[j + 1]?).map (·.1)
  | [], j, q, _, h => by simp at h
  | p :: r, 0, q, _, h => by
    simp at h
    subst h
    unfold nextL
    rw [if_pos rfl]
    cases r <;> simp
  | p :: r, j + 1, q, hn, h => by
    rw [List.map_cons, List.nodup_cons] at hn
    simp at h
    unfold nextL
    rw [if_neg fun e => hn.1 (by rw [e]; exact List.mem_map.2 ⟨q, List.mem_of_getElem? h, rfl⟩), nextL_get hn.2 h]
    simp
theorem look_snoc {L : List (ByteArray × Int)} {key : ByteArray} {n : Int} : look (without L key ++ [(key, n)]) key = some n := by
  unfold look
  rw [List.find?_append, List.find?_eq_none.2 (fun q hq => by simpa using (without_mem.1 hq).2)]
  simp
/-- What an act tells, in its cases. -/
theorem told (room : Nat) (L : List (ByteArray × Int)) (d : Act3) :
    ((d.kind == 1) = true ∧ (d.kind == 2) = false ∧ (d.kind == 3) = false ∧ (doL room L d).2.2 = true ∧ look (doL room L d).1 d.key = some d.n ∧ ∃ M, (doL room L d).1 = M ++ [(d.key, d.n)]) ∨
    ((d.kind == 1) = true ∧ (d.kind == 2) = false ∧ (d.kind == 3) = false ∧ (doL room L d).2.2 = false) ∨
    ((d.kind == 1) = false ∧ (d.kind == 2) = true ∧ (d.kind == 3) = false ∧ (doL room L d).2.2 = true ∧ ∃ M n, (doL room L d).1 = M ++ [(d.key, n)]) ∨
    ((d.kind == 1) = false ∧ (d.kind == 2) = true ∧ (d.kind == 3) = false ∧ (doL room L d).2.2 = false) ∨
    ((d.kind == 1) = false ∧ (d.kind == 2) = false ∧ (d.kind == 3) = true ∧ look (doL room L d).1 d.key = none) ∨
    ((d.kind == 1) = false ∧ (d.kind == 2) = false ∧ (d.kind == 3) = false ∧ (doL room L d).2.2 = false) := by
  unfold doL
  by_cases k1 : d.kind = 1
  · rw [if_pos k1]
    unfold putL
    by_cases hb : ((look L d.key).isSome || decide (L.length < room)) = true
    · rw [if_pos hb]
      exact .inl ⟨by rw [k1]; rfl, by rw [k1]; rfl, by rw [k1]; rfl, rfl, look_snoc, _, rfl⟩
    · rw [if_neg hb]
      exact .inr (.inl ⟨by rw [k1]; rfl, by rw [k1]; rfl, by rw [k1]; rfl, rfl⟩)
  · rw [if_neg k1]
    have b1 : (d.kind == 1) = false := by rw [beq_eq_false_iff_ne]; exact k1
    by_cases k2 : d.kind = 2
    · rw [if_pos k2]
      unfold getL
      rcases h : look L d.key with _ | n
      · exact .inr (.inr (.inr (.inl ⟨b1, by rw [k2]; rfl, by rw [k2]; rfl, rfl⟩)))
      · exact .inr (.inr (.inl ⟨b1, by rw [k2]; rfl, by rw [k2]; rfl, rfl, _, n, rfl⟩))
    · rw [if_neg k2]
      have b2 : (d.kind == 2) = false := by rw [beq_eq_false_iff_ne]; exact k2
      by_cases k3 : d.kind = 3
      · rw [if_pos k3]
        refine .inr (.inr (.inr (.inr (.inl ⟨b1, b2, by rw [k3]; rfl, ?_⟩))))
        refine look_eq_none.2 fun h => ?_
        obtain ⟨q, hq, e⟩ := List.mem_map.1 h
        exact (without_mem.1 hq).2 e
      · rw [if_neg k3]
        have b3 : (d.kind == 3) = false := by rw [beq_eq_false_iff_ne]; exact k3
        exact .inr (.inr (.inr (.inr (.inr ⟨b1, b2, b3, rfl⟩))))

set_option maxRecDepth 20000 in
set_option maxHeartbeats 8000000 in
theorem room_law (w : World) (room : Nat) (hroom : room < 256) (v0 : Value) (l : List Act3) (H : DoAt w v0 l) (hs : ∀ d, d ∈ l → d.key.size ≤ 140737488351232) :
    Calls Try.prog 6 #[.int .u8 (room : Int), v0] w fun e w' => e = .returned (.bool true) ∧ Below w.heap.size w w' := by
  have HD := Asd.mk H
  obtain ⟨A, c, rfl, hm, hr⟩ := H
  have HS := Asd.mk hs
  clear hr hs
  by_cases h60 : 60 < l.length
  · have h60b : decide (60 < l.length) = true := decide_eq_true h60
    have h60c : decide ((l.length : Int) > 60) = true := decide_eq_true (by omega)
    clear h60
    go_enter Try.func6, Try.ntmps6
    go_wp2_with fail
    refine (known_calls _).mono ?_
    rintro e w7 ⟨rfl, hb7⟩
    go_wp2_with fail
    go_ret
    exact ⟨rfl, hb7⟩
  · have h60b : decide (60 < l.length) = false := decide_eq_false h60
    have h60c : decide ((l.length : Int) > 60) = false := decide_eq_false (by omega)
    have H60 := Asd.mk (show l.length ≤ 60 by omega)
    clear h60
    go_enter Try.func6, Try.ntmps6
    go_wp2_with fail
    refine (long_calls _ _ l HD.out HS.out H60.out).mono ?_
    rintro e w7 ⟨rfl, hw⟩
    obtain rfl := hw.symm
    by_cases h8 : 800 < longL l
    · have h8b : decide (800 < longL l) = true := decide_eq_true h8
      have h8c : decide ((longL l : Int) > 800) = true := decide_eq_true (by omega)
      clear h8
      generalize longL l = ll at *
      go_wp2_with fail
      refine (known_calls _).mono ?_
      rintro e w7 ⟨rfl, hb7⟩
      go_wp2_with fail
      go_ret
      exact ⟨rfl, hb7⟩
    · have h8b : decide (800 < longL l) = false := decide_eq_false h8
      have h8c : decide ((longL l : Int) > 800) = false := decide_eq_false (by omega)
      clear h8
      generalize longL l = ll at *
      go_wp2_with fail
      refine (new_calls w w.heap.size (Nat.le_refl _) (room : Int) room (by omega)).mono ?_
      rintro e w1 ⟨b, F1, rfl, hT1, hF1, hB1⟩
      have O1 : Asd (Hld w w1 b room (runL room l 0) NoQ) := ⟨Hld.new hT1 hF1 hB1⟩
      clear hT1 hF1 hB1 h8b
      go_wp2_with fail
      go_loopg [6] l.length (fun kq v4 wr => ∃ k : Nat, v4 = .int .i64 (k : Int) ∧ Asd (kq + k = l.length) ∧ Asd (Hld w wr b room (runL room l k) NoQ))
      case atStart => exact ⟨0, rfl, ⟨by omega⟩, O1⟩
      case round =>
        clear O1
        obtain ⟨k, rfl, HK, HO⟩ := hrel
        have hk := HK.out
        cases gk with
        | zero =>
          obtain rfl : k = l.length := by omega
          clear hk
          have hlt2 : decide (l.length < l.length) = false := by simp
          go_wp2_with fail
          refine (known_calls _).mono ?_
          rintro e w12 ⟨rfl, hb12⟩
          have HO13 := Asd.mk (HO.out.below hb12)
          clear hb12 HO
          go_wp2_with fail
          go_ret
          exact ⟨rfl, HO13.out.bel⟩
        | succ k1 =>
          have hlt : k < l.length := by omega
          have hlt2 : decide (k < l.length) = true := decide_eq_true hlt
          obtain ⟨d, hd⟩ : ∃ d, l[k]? = some d := ⟨_, List.getElem?_eq_getElem hlt⟩
          obtain ⟨A', c', he, _, hr⟩ := HD.out.below HO.out.bel
          injection he with he _ he2
          subst he he2
          obtain ⟨g, off, rfl, hg, hcell⟩ := hr (by omega)
          obtain ⟨c0, c1, c2⟩ := hcell k d hd
          have HR := Asd.mk (runL_succ room hd)
          have hks := Nat.le_trans (HS.out d (List.mem_of_getElem? hd)) (show 140737488351232 ≤ 140737488355328 by omega)
          have HDK := Asd.mk hd
          clear hcell hd hk hr
          go_wp2_with fail
          have HOa := Asd.mk (HO.out.alloc (.cells #[.int .i64 d.kind, .string d.key, .int .i64 d.n] 30))
          generalize wr.alloc (.cells #[.int .i64 d.kind, .string d.key, .int .i64 d.n] 30) = wa at *
          generalize wr.heap.size = db at *
          clear HO
          refine (HOa.out.did d hks).mono ?_
          rintro e w2 ⟨rfl, ho2⟩
          have HO2 := Asd.mk ho2
          clear HOa
          have HT := Asd.mk (told room (runL room l k) d)
          clear ho2 c0 c1 c2
          unfold doV
          generalize hL' : doL room (runL room l k) d = LD at *
          obtain ⟨L', vv, is⟩ := LD
          have HR2 : Asd (runL room l (k + 1) = L') := ⟨by rw [HR.out]⟩
          clear hL' HR
          dsimp only at *
          go_wp2_with fail
          refine HO2.out.keys.mono ?_
          rintro e w3 ⟨vk, rfl, ho3⟩
          have HO3 := Asd.mk ho3
          have hle := ho3.good.le
          clear ho3 HO2
          obtain ⟨Ak, ck, rfl, _, _⟩ := HO3.out.str
          rw [List.length_map] at *
          have hle2 : decide (room < L'.length) = false := decide_eq_false (by omega)
          go_wp2_with fail
          refine HO3.out.len.mono ?_
          rintro e w4 ⟨rfl, ho4⟩
          have HO4 := Asd.mk ho4
          clear ho4 HO3
          have hdc := (HO4.out.weak (BlkQ.stab NoQ.stab)).blk
          have e1 : w4.cell? ⟨db, 1, none⟩ = some (.string d.key) := cell_of_row w4 db 1 _ _ _ hdc
          clear hdc
          go_wp2_with fail
          refine (HO4.out.peek d.key hks).mono ?_
          rintro e w5 ⟨rfl, ho5⟩
          have HO5 := Asd.mk ho5
          clear ho5 HO4 e1
          have hdc := (HO5.out.weak (BlkQ.stab NoQ.stab)).blk
          have e0 : w5.cell? ⟨db, 0, none⟩ = some (.int .i64 d.kind) := cell_of_row w5 db 0 _ _ _ hdc
          have e1 : w5.cell? ⟨db, 1, none⟩ = some (.string d.key) := cell_of_row w5 db 1 _ _ _ hdc
          have e2 : w5.cell? ⟨db, 2, none⟩ = some (.int .i64 d.n) := cell_of_row w5 db 2 _ _ _ hdc
          clear hdc
          unfold peekV
          rcases HT.out with ⟨kb1, kb2, kb3, rfl, hlk, M, hM⟩ | ⟨kb1, kb2, kb3, rfl⟩ | ⟨kb1, kb2, kb3, rfl, M, nn, hM⟩ | ⟨kb1, kb2, kb3, rfl⟩ | ⟨kb1, kb2, kb3, hlk⟩ | ⟨kb1, kb2, kb3, rfl⟩
          · rw [hlk]
            dsimp only [Option.getD_some, Option.isSome_some]
            have tn : (d.n != d.n) = false := by simp
            have tk1 : (d.key.toList != d.key.toList) = false := by simp
            have tk2 : (d.key.toList == d.key.toList) = true := by simp
            have hlp : L'.length = M.length + 1 := by rw [hM]; simp
            have hqk : (L'.map (·.1))[M.length]? = some d.key := by rw [hM]; simp
            obtain ⟨g4, rfl, hg4, hck⟩ := HO5.out.str.cell hqk
            have hp1 : M.length < L'.length := by omega
            have hw1 : IntKind.i64.wrap ((L'.length : Int) - 1) = (M.length : Int) := by rw [show (L'.length : Int) - 1 = (M.length : Int) by omega]; exact IntWalk.i64_in _ (by omega)
            have HX := Asd.mk hlk
            clear hlk hqk hM hlp
            generalize M.length = p at *
            go_wp2_with fail
            go_quiet (fail)
            go_wp2_with fail
            clear hck tk1 tk2 hw1 hp1
            go_loopg [13] L'.length (fun kq v13 wr => ∃ j : Nat, v13 = .int .i64 (j : Int) ∧ Asd (kq + j = L'.length) ∧ Asd (Hld w wr b room L' (StrQ (.slice (some ⟨g4, 0, none⟩) L'.length ck) (L'.map (·.1)) (BlkQ db (.cells #[.int .i64 d.kind, .string d.key, .int .i64 d.n] 30) NoQ))))
            case atStart => exact ⟨0, rfl, ⟨by omega⟩, ⟨HO5.out.drewN _⟩⟩
            case round =>
              clear HO5 e0 e1 e2
              obtain ⟨j, rfl, HJ, HO6⟩ := hrel
              cases gk with
              | zero =>
                obtain rfl : j = L'.length := by have := HJ.out; omega
                have hlt3 : decide (L'.length < L'.length) = false := by simp
                go_wp2_with fail
                go_roundg k1
                case measure => omega
                case rel => exact ⟨k + 1, by go_num, ⟨by have := HK.out; omega⟩, ⟨by rw [HR2.out]; exact (HO6.out.weak (BlkQ.stab NoQ.stab)).weakB NoQ.stab⟩⟩
              | succ j1 =>
                have hlt3 : j < L'.length := by have := HJ.out; omega
                have hlt4 : decide (j < L'.length) = true := decide_eq_true hlt3
                obtain ⟨⟨kj, nj⟩, hq⟩ : ∃ q, L'[j]? = some q := ⟨_, List.getElem?_eq_getElem hlt3⟩
                have hksj : kj.size ≤ 140737488355328 := HO6.out.good.ks (kj, nj) (List.mem_of_getElem? hq)
                have HQ : Asd ((L'.map (·.1))[j]? = some kj) := ⟨by rw [List.getElem?_map, hq]; rfl⟩
                have HIN : Asd ((look L' kj).isSome = true) := ⟨look_isSome.2 (List.mem_of_getElem? HQ.out)⟩
                have HNX : Asd (nextL L' kj = (L'[j + 1]?).map (·.1)) := ⟨nextL_get HO6.out.good.nd hq⟩
                clear hq
                have hcj := HO6.out.str.cells HQ.out
                go_wp2_with fail
                refine (HO6.out.peek kj hksj).mono ?_
                rintro e w7 ⟨rfl, ho7⟩
                have HO7 := Asd.mk ho7
                clear ho7 HO6 hcj
                have hcj := HO7.out.str.cells HQ.out
                unfold peekV
                rw [HIN.out]
                generalize (look L' kj).getD 0 = nv
                go_wp2_with fail
                refine (HO7.out.next kj hksj).mono ?_
                rintro e w8 ⟨rfl, ho8⟩
                have HO8 := Asd.mk ho8
                clear ho8 HO7 hcj
                rw [HNX.out]
                have hw2 : IntKind.i64.wrap ((j : Int) + 1) = ((j + 1 : Nat) : Int) := by rw [show (j : Int) + 1 = ((j + 1 : Nat) : Int) by omega]; exact IntWalk.i64_in _ (by omega)
                rcases hq2 : L'[j + 1]? with _ | ⟨kn, nn⟩
                · have hge : ¬ (j + 1 < L'.length) := fun h => by rw [List.getElem?_eq_getElem h] at hq2; simp at hq2
                  have hge2 : decide (j + 1 < L'.length) = false := decide_eq_false hge
                  have hge3 : decide ((j : Int) + 1 < (L'.length : Int)) = false := decide_eq_false (by omega)
                  have HH := Asd.mk hq2
                  clear hq2 hge
                  dsimp only [Option.map_none]
                  unfold nextV
                  go_wp2_with fail
                  go_roundg j1
                  case measure => omega
                  case rel => exact ⟨j + 1, by go_num, ⟨by have := HJ.out; omega⟩, HO8⟩
                · have hlt5 : j + 1 < L'.length := (List.getElem?_eq_some_iff.1 hq2).1
                  have hge2 : decide (j + 1 < L'.length) = true := decide_eq_true hlt5
                  have hge3 : decide ((j : Int) + 1 < (L'.length : Int)) = true := decide_eq_true (by omega)
                  have HQ2 : Asd ((L'.map (·.1))[j + 1]? = some kn) := ⟨by rw [List.getElem?_map, hq2]; rfl⟩
                  have hcn := HO8.out.str.cells HQ2.out
                  have tk1 : (kn.toList != kn.toList) = false := by simp
                  have tk2 : (kn.toList == kn.toList) = true := by simp
                  clear hq2
                  dsimp only [Option.map_some]
                  unfold nextV
                  go_wp2_with fail
                  go_roundg j1
                  case measure => omega
                  case rel => exact ⟨j + 1, by go_num, ⟨by have := HJ.out; omega⟩, HO8⟩
          · generalize (look L' d.key).getD 0 = nd
            generalize (look L' d.key).isSome = hd
            go_wp2_with fail
            go_quiet (fail)
            go_wp2_with fail
            go_loopg [13] L'.length (fun kq v13 wr => ∃ j : Nat, v13 = .int .i64 (j : Int) ∧ Asd (kq + j = L'.length) ∧ Asd (Hld w wr b room L' (StrQ (.slice Ak L'.length ck) (L'.map (·.1)) (BlkQ db (.cells #[.int .i64 d.kind, .string d.key, .int .i64 d.n] 30) NoQ))))
            case atStart => exact ⟨0, rfl, ⟨by omega⟩, ⟨HO5.out.drewN _⟩⟩
            case round =>
              clear HO5 e0 e1 e2
              obtain ⟨j, rfl, HJ, HO6⟩ := hrel
              cases gk with
              | zero =>
                obtain rfl : j = L'.length := by have := HJ.out; omega
                have hlt3 : decide (L'.length < L'.length) = false := by simp
                go_wp2_with fail
                go_roundg k1
                case measure => omega
                case rel => exact ⟨k + 1, by go_num, ⟨by have := HK.out; omega⟩, ⟨by rw [HR2.out]; exact (HO6.out.weak (BlkQ.stab NoQ.stab)).weakB NoQ.stab⟩⟩
              | succ j1 =>
                have hlt3 : j < L'.length := by have := HJ.out; omega
                have hlt4 : decide (j < L'.length) = true := decide_eq_true hlt3
                obtain ⟨⟨kj, nj⟩, hq⟩ : ∃ q, L'[j]? = some q := ⟨_, List.getElem?_eq_getElem hlt3⟩
                have hksj : kj.size ≤ 140737488355328 := HO6.out.good.ks (kj, nj) (List.mem_of_getElem? hq)
                have HQ : Asd ((L'.map (·.1))[j]? = some kj) := ⟨by rw [List.getElem?_map, hq]; rfl⟩
                have HIN : Asd ((look L' kj).isSome = true) := ⟨look_isSome.2 (List.mem_of_getElem? HQ.out)⟩
                have HNX : Asd (nextL L' kj = (L'[j + 1]?).map (·.1)) := ⟨nextL_get HO6.out.good.nd hq⟩
                clear hq
                obtain ⟨g5, rfl, hg5, hcj⟩ := HO6.out.str.cell HQ.out
                go_wp2_with fail
                refine (HO6.out.peek kj hksj).mono ?_
                rintro e w7 ⟨rfl, ho7⟩
                have HO7 := Asd.mk ho7
                clear ho7 HO6 hcj
                have hcj := HO7.out.str.cells HQ.out
                unfold peekV
                rw [HIN.out]
                generalize (look L' kj).getD 0 = nv
                go_wp2_with fail
                refine (HO7.out.next kj hksj).mono ?_
                rintro e w8 ⟨rfl, ho8⟩
                have HO8 := Asd.mk ho8
                clear ho8 HO7 hcj
                rw [HNX.out]
                have hw2 : IntKind.i64.wrap ((j : Int) + 1) = ((j + 1 : Nat) : Int) := by rw [show (j : Int) + 1 = ((j + 1 : Nat) : Int) by omega]; exact IntWalk.i64_in _ (by omega)
                rcases hq2 : L'[j + 1]? with _ | ⟨kn, nn⟩
                · have hge : ¬ (j + 1 < L'.length) := fun h => by rw [List.getElem?_eq_getElem h] at hq2; simp at hq2
                  have hge2 : decide (j + 1 < L'.length) = false := decide_eq_false hge
                  have hge3 : decide ((j : Int) + 1 < (L'.length : Int)) = false := decide_eq_false (by omega)
                  have HH := Asd.mk hq2
                  clear hq2 hge
                  dsimp only [Option.map_none]
                  unfold nextV
                  go_wp2_with fail
                  go_roundg j1
                  case measure => omega
                  case rel => exact ⟨j + 1, by go_num, ⟨by have := HJ.out; omega⟩, HO8⟩
                · have hlt5 : j + 1 < L'.length := (List.getElem?_eq_some_iff.1 hq2).1
                  have hge2 : decide (j + 1 < L'.length) = true := decide_eq_true hlt5
                  have hge3 : decide ((j : Int) + 1 < (L'.length : Int)) = true := decide_eq_true (by omega)
                  have HQ2 : Asd ((L'.map (·.1))[j + 1]? = some kn) := ⟨by rw [List.getElem?_map, hq2]; rfl⟩
                  have hcn := HO8.out.str.cells HQ2.out
                  have tk1 : (kn.toList != kn.toList) = false := by simp
                  have tk2 : (kn.toList == kn.toList) = true := by simp
                  clear hq2
                  dsimp only [Option.map_some]
                  unfold nextV
                  go_wp2_with fail
                  go_roundg j1
                  case measure => omega
                  case rel => exact ⟨j + 1, by go_num, ⟨by have := HJ.out; omega⟩, HO8⟩
          · generalize (look L' d.key).getD 0 = nd
            generalize (look L' d.key).isSome = hd
            have tk1 : (d.key.toList != d.key.toList) = false := by simp
            have tk2 : (d.key.toList == d.key.toList) = true := by simp
            have hlp : L'.length = M.length + 1 := by rw [hM]; simp
            have hqk : (L'.map (·.1))[M.length]? = some d.key := by rw [hM]; simp
            obtain ⟨g4, rfl, hg4, hck⟩ := HO5.out.str.cell hqk
            have hp1 : M.length < L'.length := by omega
            have hw1 : IntKind.i64.wrap ((L'.length : Int) - 1) = (M.length : Int) := by rw [show (L'.length : Int) - 1 = (M.length : Int) by omega]; exact IntWalk.i64_in _ (by omega)
            clear hqk hM hlp
            generalize M.length = p at *
            go_wp2_with fail
            go_quiet (fail)
            go_wp2_with fail
            clear hck tk1 tk2 hw1 hp1
            go_loopg [13] L'.length (fun kq v13 wr => ∃ j : Nat, v13 = .int .i64 (j : Int) ∧ Asd (kq + j = L'.length) ∧ Asd (Hld w wr b room L' (StrQ (.slice (some ⟨g4, 0, none⟩) L'.length ck) (L'.map (·.1)) (BlkQ db (.cells #[.int .i64 d.kind, .string d.key, .int .i64 d.n] 30) NoQ))))
            case atStart => exact ⟨0, rfl, ⟨by omega⟩, ⟨HO5.out.drewN _⟩⟩
            case round =>
              clear HO5 e0 e1 e2
              obtain ⟨j, rfl, HJ, HO6⟩ := hrel
              cases gk with
              | zero =>
                obtain rfl : j = L'.length := by have := HJ.out; omega
                have hlt3 : decide (L'.length < L'.length) = false := by simp
                go_wp2_with fail
                go_roundg k1
                case measure => omega
                case rel => exact ⟨k + 1, by go_num, ⟨by have := HK.out; omega⟩, ⟨by rw [HR2.out]; exact (HO6.out.weak (BlkQ.stab NoQ.stab)).weakB NoQ.stab⟩⟩
              | succ j1 =>
                have hlt3 : j < L'.length := by have := HJ.out; omega
                have hlt4 : decide (j < L'.length) = true := decide_eq_true hlt3
                obtain ⟨⟨kj, nj⟩, hq⟩ : ∃ q, L'[j]? = some q := ⟨_, List.getElem?_eq_getElem hlt3⟩
                have hksj : kj.size ≤ 140737488355328 := HO6.out.good.ks (kj, nj) (List.mem_of_getElem? hq)
                have HQ : Asd ((L'.map (·.1))[j]? = some kj) := ⟨by rw [List.getElem?_map, hq]; rfl⟩
                have HIN : Asd ((look L' kj).isSome = true) := ⟨look_isSome.2 (List.mem_of_getElem? HQ.out)⟩
                have HNX : Asd (nextL L' kj = (L'[j + 1]?).map (·.1)) := ⟨nextL_get HO6.out.good.nd hq⟩
                clear hq
                have hcj := HO6.out.str.cells HQ.out
                go_wp2_with fail
                refine (HO6.out.peek kj hksj).mono ?_
                rintro e w7 ⟨rfl, ho7⟩
                have HO7 := Asd.mk ho7
                clear ho7 HO6 hcj
                have hcj := HO7.out.str.cells HQ.out
                unfold peekV
                rw [HIN.out]
                generalize (look L' kj).getD 0 = nv
                go_wp2_with fail
                refine (HO7.out.next kj hksj).mono ?_
                rintro e w8 ⟨rfl, ho8⟩
                have HO8 := Asd.mk ho8
                clear ho8 HO7 hcj
                rw [HNX.out]
                have hw2 : IntKind.i64.wrap ((j : Int) + 1) = ((j + 1 : Nat) : Int) := by rw [show (j : Int) + 1 = ((j + 1 : Nat) : Int) by omega]; exact IntWalk.i64_in _ (by omega)
                rcases hq2 : L'[j + 1]? with _ | ⟨kn, nn⟩
                · have hge : ¬ (j + 1 < L'.length) := fun h => by rw [List.getElem?_eq_getElem h] at hq2; simp at hq2
                  have hge2 : decide (j + 1 < L'.length) = false := decide_eq_false hge
                  have hge3 : decide ((j : Int) + 1 < (L'.length : Int)) = false := decide_eq_false (by omega)
                  have HH := Asd.mk hq2
                  clear hq2 hge
                  dsimp only [Option.map_none]
                  unfold nextV
                  go_wp2_with fail
                  go_roundg j1
                  case measure => omega
                  case rel => exact ⟨j + 1, by go_num, ⟨by have := HJ.out; omega⟩, HO8⟩
                · have hlt5 : j + 1 < L'.length := (List.getElem?_eq_some_iff.1 hq2).1
                  have hge2 : decide (j + 1 < L'.length) = true := decide_eq_true hlt5
                  have hge3 : decide ((j : Int) + 1 < (L'.length : Int)) = true := decide_eq_true (by omega)
                  have HQ2 : Asd ((L'.map (·.1))[j + 1]? = some kn) := ⟨by rw [List.getElem?_map, hq2]; rfl⟩
                  have hcn := HO8.out.str.cells HQ2.out
                  have tk1 : (kn.toList != kn.toList) = false := by simp
                  have tk2 : (kn.toList == kn.toList) = true := by simp
                  clear hq2
                  dsimp only [Option.map_some]
                  unfold nextV
                  go_wp2_with fail
                  go_roundg j1
                  case measure => omega
                  case rel => exact ⟨j + 1, by go_num, ⟨by have := HJ.out; omega⟩, HO8⟩
          · generalize (look L' d.key).getD 0 = nd
            generalize (look L' d.key).isSome = hd
            go_wp2_with fail
            go_quiet (fail)
            go_wp2_with fail
            go_loopg [13] L'.length (fun kq v13 wr => ∃ j : Nat, v13 = .int .i64 (j : Int) ∧ Asd (kq + j = L'.length) ∧ Asd (Hld w wr b room L' (StrQ (.slice Ak L'.length ck) (L'.map (·.1)) (BlkQ db (.cells #[.int .i64 d.kind, .string d.key, .int .i64 d.n] 30) NoQ))))
            case atStart => exact ⟨0, rfl, ⟨by omega⟩, ⟨HO5.out.drewN _⟩⟩
            case round =>
              clear HO5 e0 e1 e2
              obtain ⟨j, rfl, HJ, HO6⟩ := hrel
              cases gk with
              | zero =>
                obtain rfl : j = L'.length := by have := HJ.out; omega
                have hlt3 : decide (L'.length < L'.length) = false := by simp
                go_wp2_with fail
                go_roundg k1
                case measure => omega
                case rel => exact ⟨k + 1, by go_num, ⟨by have := HK.out; omega⟩, ⟨by rw [HR2.out]; exact (HO6.out.weak (BlkQ.stab NoQ.stab)).weakB NoQ.stab⟩⟩
              | succ j1 =>
                have hlt3 : j < L'.length := by have := HJ.out; omega
                have hlt4 : decide (j < L'.length) = true := decide_eq_true hlt3
                obtain ⟨⟨kj, nj⟩, hq⟩ : ∃ q, L'[j]? = some q := ⟨_, List.getElem?_eq_getElem hlt3⟩
                have hksj : kj.size ≤ 140737488355328 := HO6.out.good.ks (kj, nj) (List.mem_of_getElem? hq)
                have HQ : Asd ((L'.map (·.1))[j]? = some kj) := ⟨by rw [List.getElem?_map, hq]; rfl⟩
                have HIN : Asd ((look L' kj).isSome = true) := ⟨look_isSome.2 (List.mem_of_getElem? HQ.out)⟩
                have HNX : Asd (nextL L' kj = (L'[j + 1]?).map (·.1)) := ⟨nextL_get HO6.out.good.nd hq⟩
                clear hq
                obtain ⟨g5, rfl, hg5, hcj⟩ := HO6.out.str.cell HQ.out
                go_wp2_with fail
                refine (HO6.out.peek kj hksj).mono ?_
                rintro e w7 ⟨rfl, ho7⟩
                have HO7 := Asd.mk ho7
                clear ho7 HO6 hcj
                have hcj := HO7.out.str.cells HQ.out
                unfold peekV
                rw [HIN.out]
                generalize (look L' kj).getD 0 = nv
                go_wp2_with fail
                refine (HO7.out.next kj hksj).mono ?_
                rintro e w8 ⟨rfl, ho8⟩
                have HO8 := Asd.mk ho8
                clear ho8 HO7 hcj
                rw [HNX.out]
                have hw2 : IntKind.i64.wrap ((j : Int) + 1) = ((j + 1 : Nat) : Int) := by rw [show (j : Int) + 1 = ((j + 1 : Nat) : Int) by omega]; exact IntWalk.i64_in _ (by omega)
                rcases hq2 : L'[j + 1]? with _ | ⟨kn, nn⟩
                · have hge : ¬ (j + 1 < L'.length) := fun h => by rw [List.getElem?_eq_getElem h] at hq2; simp at hq2
                  have hge2 : decide (j + 1 < L'.length) = false := decide_eq_false hge
                  have hge3 : decide ((j : Int) + 1 < (L'.length : Int)) = false := decide_eq_false (by omega)
                  have HH := Asd.mk hq2
                  clear hq2 hge
                  dsimp only [Option.map_none]
                  unfold nextV
                  go_wp2_with fail
                  go_roundg j1
                  case measure => omega
                  case rel => exact ⟨j + 1, by go_num, ⟨by have := HJ.out; omega⟩, HO8⟩
                · have hlt5 : j + 1 < L'.length := (List.getElem?_eq_some_iff.1 hq2).1
                  have hge2 : decide (j + 1 < L'.length) = true := decide_eq_true hlt5
                  have hge3 : decide ((j : Int) + 1 < (L'.length : Int)) = true := decide_eq_true (by omega)
                  have HQ2 : Asd ((L'.map (·.1))[j + 1]? = some kn) := ⟨by rw [List.getElem?_map, hq2]; rfl⟩
                  have hcn := HO8.out.str.cells HQ2.out
                  have tk1 : (kn.toList != kn.toList) = false := by simp
                  have tk2 : (kn.toList == kn.toList) = true := by simp
                  clear hq2
                  dsimp only [Option.map_some]
                  unfold nextV
                  go_wp2_with fail
                  go_roundg j1
                  case measure => omega
                  case rel => exact ⟨j + 1, by go_num, ⟨by have := HJ.out; omega⟩, HO8⟩
          · rw [hlk]
            dsimp only [Option.getD_none, Option.isSome_none]
            have HX := Asd.mk hlk
            clear hlk
            go_wp2_with fail
            go_quiet (fail)
            go_wp2_with fail
            go_loopg [13] L'.length (fun kq v13 wr => ∃ j : Nat, v13 = .int .i64 (j : Int) ∧ Asd (kq + j = L'.length) ∧ Asd (Hld w wr b room L' (StrQ (.slice Ak L'.length ck) (L'.map (·.1)) (BlkQ db (.cells #[.int .i64 d.kind, .string d.key, .int .i64 d.n] 30) NoQ))))
            case atStart => exact ⟨0, rfl, ⟨by omega⟩, ⟨HO5.out.drewN _⟩⟩
            case round =>
              clear HO5 e0 e1 e2
              obtain ⟨j, rfl, HJ, HO6⟩ := hrel
              cases gk with
              | zero =>
                obtain rfl : j = L'.length := by have := HJ.out; omega
                have hlt3 : decide (L'.length < L'.length) = false := by simp
                go_wp2_with fail
                go_roundg k1
                case measure => omega
                case rel => exact ⟨k + 1, by go_num, ⟨by have := HK.out; omega⟩, ⟨by rw [HR2.out]; exact (HO6.out.weak (BlkQ.stab NoQ.stab)).weakB NoQ.stab⟩⟩
              | succ j1 =>
                have hlt3 : j < L'.length := by have := HJ.out; omega
                have hlt4 : decide (j < L'.length) = true := decide_eq_true hlt3
                obtain ⟨⟨kj, nj⟩, hq⟩ : ∃ q, L'[j]? = some q := ⟨_, List.getElem?_eq_getElem hlt3⟩
                have hksj : kj.size ≤ 140737488355328 := HO6.out.good.ks (kj, nj) (List.mem_of_getElem? hq)
                have HQ : Asd ((L'.map (·.1))[j]? = some kj) := ⟨by rw [List.getElem?_map, hq]; rfl⟩
                have HIN : Asd ((look L' kj).isSome = true) := ⟨look_isSome.2 (List.mem_of_getElem? HQ.out)⟩
                have HNX : Asd (nextL L' kj = (L'[j + 1]?).map (·.1)) := ⟨nextL_get HO6.out.good.nd hq⟩
                clear hq
                obtain ⟨g5, rfl, hg5, hcj⟩ := HO6.out.str.cell HQ.out
                go_wp2_with fail
                refine (HO6.out.peek kj hksj).mono ?_
                rintro e w7 ⟨rfl, ho7⟩
                have HO7 := Asd.mk ho7
                clear ho7 HO6 hcj
                have hcj := HO7.out.str.cells HQ.out
                unfold peekV
                rw [HIN.out]
                generalize (look L' kj).getD 0 = nv
                go_wp2_with fail
                refine (HO7.out.next kj hksj).mono ?_
                rintro e w8 ⟨rfl, ho8⟩
                have HO8 := Asd.mk ho8
                clear ho8 HO7 hcj
                rw [HNX.out]
                have hw2 : IntKind.i64.wrap ((j : Int) + 1) = ((j + 1 : Nat) : Int) := by rw [show (j : Int) + 1 = ((j + 1 : Nat) : Int) by omega]; exact IntWalk.i64_in _ (by omega)
                rcases hq2 : L'[j + 1]? with _ | ⟨kn, nn⟩
                · have hge : ¬ (j + 1 < L'.length) := fun h => by rw [List.getElem?_eq_getElem h] at hq2; simp at hq2
                  have hge2 : decide (j + 1 < L'.length) = false := decide_eq_false hge
                  have hge3 : decide ((j : Int) + 1 < (L'.length : Int)) = false := decide_eq_false (by omega)
                  have HH := Asd.mk hq2
                  clear hq2 hge
                  dsimp only [Option.map_none]
                  unfold nextV
                  go_wp2_with fail
                  go_roundg j1
                  case measure => omega
                  case rel => exact ⟨j + 1, by go_num, ⟨by have := HJ.out; omega⟩, HO8⟩
                · have hlt5 : j + 1 < L'.length := (List.getElem?_eq_some_iff.1 hq2).1
                  have hge2 : decide (j + 1 < L'.length) = true := decide_eq_true hlt5
                  have hge3 : decide ((j : Int) + 1 < (L'.length : Int)) = true := decide_eq_true (by omega)
                  have HQ2 : Asd ((L'.map (·.1))[j + 1]? = some kn) := ⟨by rw [List.getElem?_map, hq2]; rfl⟩
                  have hcn := HO8.out.str.cells HQ2.out
                  have tk1 : (kn.toList != kn.toList) = false := by simp
                  have tk2 : (kn.toList == kn.toList) = true := by simp
                  clear hq2
                  dsimp only [Option.map_some]
                  unfold nextV
                  go_wp2_with fail
                  go_roundg j1
                  case measure => omega
                  case rel => exact ⟨j + 1, by go_num, ⟨by have := HJ.out; omega⟩, HO8⟩
          · generalize (look L' d.key).getD 0 = nd
            generalize (look L' d.key).isSome = hd
            go_wp2_with fail
            go_quiet (fail)
            go_wp2_with fail
            go_loopg [13] L'.length (fun kq v13 wr => ∃ j : Nat, v13 = .int .i64 (j : Int) ∧ Asd (kq + j = L'.length) ∧ Asd (Hld w wr b room L' (StrQ (.slice Ak L'.length ck) (L'.map (·.1)) (BlkQ db (.cells #[.int .i64 d.kind, .string d.key, .int .i64 d.n] 30) NoQ))))
            case atStart => exact ⟨0, rfl, ⟨by omega⟩, ⟨HO5.out.drewN _⟩⟩
            case round =>
              clear HO5 e0 e1 e2
              obtain ⟨j, rfl, HJ, HO6⟩ := hrel
              cases gk with
              | zero =>
                obtain rfl : j = L'.length := by have := HJ.out; omega
                have hlt3 : decide (L'.length < L'.length) = false := by simp
                go_wp2_with fail
                go_roundg k1
                case measure => omega
                case rel => exact ⟨k + 1, by go_num, ⟨by have := HK.out; omega⟩, ⟨by rw [HR2.out]; exact (HO6.out.weak (BlkQ.stab NoQ.stab)).weakB NoQ.stab⟩⟩
              | succ j1 =>
                have hlt3 : j < L'.length := by have := HJ.out; omega
                have hlt4 : decide (j < L'.length) = true := decide_eq_true hlt3
                obtain ⟨⟨kj, nj⟩, hq⟩ : ∃ q, L'[j]? = some q := ⟨_, List.getElem?_eq_getElem hlt3⟩
                have hksj : kj.size ≤ 140737488355328 := HO6.out.good.ks (kj, nj) (List.mem_of_getElem? hq)
                have HQ : Asd ((L'.map (·.1))[j]? = some kj) := ⟨by rw [List.getElem?_map, hq]; rfl⟩
                have HIN : Asd ((look L' kj).isSome = true) := ⟨look_isSome.2 (List.mem_of_getElem? HQ.out)⟩
                have HNX : Asd (nextL L' kj = (L'[j + 1]?).map (·.1)) := ⟨nextL_get HO6.out.good.nd hq⟩
                clear hq
                obtain ⟨g5, rfl, hg5, hcj⟩ := HO6.out.str.cell HQ.out
                go_wp2_with fail
                refine (HO6.out.peek kj hksj).mono ?_
                rintro e w7 ⟨rfl, ho7⟩
                have HO7 := Asd.mk ho7
                clear ho7 HO6 hcj
                have hcj := HO7.out.str.cells HQ.out
                unfold peekV
                rw [HIN.out]
                generalize (look L' kj).getD 0 = nv
                go_wp2_with fail
                refine (HO7.out.next kj hksj).mono ?_
                rintro e w8 ⟨rfl, ho8⟩
                have HO8 := Asd.mk ho8
                clear ho8 HO7 hcj
                rw [HNX.out]
                have hw2 : IntKind.i64.wrap ((j : Int) + 1) = ((j + 1 : Nat) : Int) := by rw [show (j : Int) + 1 = ((j + 1 : Nat) : Int) by omega]; exact IntWalk.i64_in _ (by omega)
                rcases hq2 : L'[j + 1]? with _ | ⟨kn, nn⟩
                · have hge : ¬ (j + 1 < L'.length) := fun h => by rw [List.getElem?_eq_getElem h] at hq2; simp at hq2
                  have hge2 : decide (j + 1 < L'.length) = false := decide_eq_false hge
                  have hge3 : decide ((j : Int) + 1 < (L'.length : Int)) = false := decide_eq_false (by omega)
                  have HH := Asd.mk hq2
                  clear hq2 hge
                  dsimp only [Option.map_none]
                  unfold nextV
                  go_wp2_with fail
                  go_roundg j1
                  case measure => omega
                  case rel => exact ⟨j + 1, by go_num, ⟨by have := HJ.out; omega⟩, HO8⟩
                · have hlt5 : j + 1 < L'.length := (List.getElem?_eq_some_iff.1 hq2).1
                  have hge2 : decide (j + 1 < L'.length) = true := decide_eq_true hlt5
                  have hge3 : decide ((j : Int) + 1 < (L'.length : Int)) = true := decide_eq_true (by omega)
                  have HQ2 : Asd ((L'.map (·.1))[j + 1]? = some kn) := ⟨by rw [List.getElem?_map, hq2]; rfl⟩
                  have hcn := HO8.out.str.cells HQ2.out
                  have tk1 : (kn.toList != kn.toList) = false := by simp
                  have tk2 : (kn.toList == kn.toList) = true := by simp
                  clear hq2
                  dsimp only [Option.map_some]
                  unfold nextV
                  go_wp2_with fail
                  go_roundg j1
                  case measure => omega
                  case rel => exact ⟨j + 1, by go_num, ⟨by have := HJ.out; omega⟩, HO8⟩
end Go.Proofs.Ytapclgjelekijaa
