import Derived.Test.YtapclgjelekijaaE1
/-! TableSteps: the walk. -/
namespace Go.Proofs.Ytapclgjelekijaa
open Go.RowKit Go.Proofs.YtapclgjelekijaaW.PrintWords Go.Proofs.YtapclgjelekijaaW.PrintLast Go.Proofs.YtapclgjelekijaaW.PrintMore
open PTableSteps
set_option linter.unusedSimpArgs false
set_option linter.unusedVariables false

theorem DoAt.lt {w : World} {g off c : Nat} {l : List Act3} (h : DoAt w (.slice (some ⟨g, off, none⟩) l.length c) l) (hl : 0 < l.length) : g < w.heap.size := by
  obtain ⟨A, c', he, _, hr⟩ := h
  obtain ⟨b, off', h1, h2, _⟩ := hr hl
  injection he with he _ _
  rw [h1] at he
  injection he with he
  injection he with he1 he2
  subst he1
  exact h2
theorem cell_fr {W W' : World} {F : Nat → Prop} {p : Addr} {v : Value} (h : W.cell? p = some v) (hf : Fr F W W') (hp : ¬ F p.block) : W'.cell? p = some v := by
  have hl := World.block_lt_of_cell? W _ h
  rw [← h]
  unfold World.cell?
  rw [hf.block p.block hl hp]
set_option maxRecDepth 20000 in
set_option maxHeartbeats 8000000 in
theorem steps_law (w : World) (n : Int) (v0 : Value) (l : List Act3) (H : DoAt w v0 l) (hs : ∀ d, d ∈ l → d.key.size ≤ 140737488351232) (key : ByteArray) (hky : key.size ≤ 140737488351232) :
    Calls Try.prog 8 #[.int .i64 n, v0, .string key] w fun e w' => e = .returned (.bool true) ∧ Below w.heap.size w w' := by
  have hks : key.size ≤ 140737488355328 := by omega
  have HD := Asd.mk H
  obtain ⟨A, c, rfl, hm, hr⟩ := H
  have HS := Asd.mk hs
  clear hr hs
  by_cases h60 : 60 < l.length
  · have h60b : decide (60 < l.length) = true := decide_eq_true h60
    have h60c : decide ((l.length : Int) > 60) = true := decide_eq_true (by omega)
    clear h60
    go_enter Try.func8, Try.ntmps8
    go_wp2_with fail
    refine (known_calls _).mono ?_
    rintro e w7 ⟨rfl, hb7⟩
    go_wp2_with fail
    go_ret
    exact ⟨rfl, hb7⟩
  · have h60b : decide (60 < l.length) = false := decide_eq_false h60
    have h60c : decide ((l.length : Int) > 60) = false := decide_eq_false (by omega)
    have H60 := Asd.mk (show l.length ≤ 60 by omega)
    clear h60
    go_enter Try.func8, Try.ntmps8
    go_wp2_with fail
    refine (long_calls _ _ l HD.out HS.out H60.out).mono ?_
    rintro e w7 ⟨rfl, hw⟩
    obtain rfl := hw.symm
    by_cases h8 : 800 < longL l
    · have h8b : decide (800 < longL l) = true := decide_eq_true h8
      have h8c : decide ((longL l : Int) > 800) = true := decide_eq_true (by omega)
      clear h8
      generalize longL l = ll at *
      go_wp2_with fail
      refine (known_calls _).mono ?_
      rintro e w7 ⟨rfl, hb7⟩
      go_wp2_with fail
      go_ret
      exact ⟨rfl, hb7⟩
    · have h8b : decide (800 < longL l) = false := decide_eq_false h8
      have h8c : decide ((longL l : Int) > 800) = false := decide_eq_false (by omega)
      clear h8
      generalize longL l = ll at *
      by_cases h1 : 100 < key.size
      · have h1b : decide (100 < key.size) = true := decide_eq_true h1
        have h1c : decide ((key.size : Int) > 100) = true := decide_eq_true (by omega)
        clear h1
        go_wp2_with fail
        refine (known_calls _).mono ?_
        rintro e w7 ⟨rfl, hb7⟩
        go_wp2_with fail
        go_ret
        exact ⟨rfl, hb7⟩
      have h1b : decide (100 < key.size) = false := decide_eq_false h1
      have h1c : decide ((key.size : Int) > 100) = false := decide_eq_false (by omega)
      clear h1
      go_wp2_with fail
      obtain ⟨room, hroom⟩ : ∃ room : Nat, (room : Int) = max 0 (min n 10000) := ⟨(max 0 (min n 10000)).toNat, by omega⟩
      have hr4 : room ≤ 10000 := by omega
      refine (new_calls w w.heap.size (Nat.le_refl _) n room hroom).mono ?_
      rintro e w1 ⟨b, F1, rfl, hT1, hF1, hB1⟩
      have O1 : Asd (Hld w w1 b room (runL room l 0) NoQ) := ⟨Hld.new hT1 hF1 hB1⟩
      clear hT1 hF1 hB1 h8b
      go_wp2_with fail
      have hnf := new_f n room hroom
      have HROOM := Asd.mk hroom
      clear hroom
      refine (tapsterref09_New.calls n _ _ _ hnf).mono ?_
      rintro e w2 ⟨v1, rfl, hR1, hB2⟩
      clear hnf
      have O2 := Asd.mk (O1.out.ref (r := (room : Int)) hR1 hB2)
      obtain ⟨A1, c1, rfl, hl1, hC1⟩ := Kd.R_reads hR1
      clear hR1 hB2 hl1 hC1 O1
      go_wp2_with fail
      have O3 : Asd (Hld w (w2.alloc (.cells #[.int .i64 (room : Int), .slice A1 (encL []).length c1] 50)) b room (runL room l 0) (RefQ w.heap.size w2.heap.size (room : Int) (encL (runL room l 0)))) := ⟨O2.out⟩
      clear O2
      generalize w2.heap.size = ub at *
      generalize w2.alloc (.cells #[.int .i64 (room : Int), .slice A1 (encL []).length c1] 50) = w3 at *
      go_loopg [9] l.length (fun kq v9 wr => ∃ k : Nat, v9 = .int .i64 (k : Int) ∧ Asd (kq + k = l.length) ∧ Asd (Hld w wr b room (runL room l k) (RefQ w.heap.size ub (room : Int) (encL (runL room l k)))))
      case atStart => exact ⟨0, rfl, ⟨by omega⟩, O3⟩
      case round =>
        clear O3
        obtain ⟨k, rfl, HK, HO⟩ := hrel
        have hk := HK.out
        cases gk with
        | zero =>
          obtain rfl : k = l.length := by omega
          clear hk
          have hlt2 : decide (l.length < l.length) = false := by simp
          go_wp2_with fail
          refine (known_calls _).mono ?_
          rintro e w12 ⟨rfl, hb12⟩
          have HO13 := Asd.mk (HO.out.below hb12)
          clear hb12 HO
          go_wp2_with fail
          go_ret
          exact ⟨rfl, HO13.out.bel⟩
        | succ k1 =>
          have hlt : k < l.length := by omega
          have hlt2 : decide (k < l.length) = true := decide_eq_true hlt
          obtain ⟨d, hd⟩ : ∃ d, l[k]? = some d := ⟨_, List.getElem?_eq_getElem hlt⟩
          obtain ⟨A', c', he, _, hr⟩ := HD.out.below HO.out.bel
          injection he with he _ he2
          subst he he2
          obtain ⟨g, off, rfl, hg, hcell⟩ := hr (by omega)
          obtain ⟨c0, c1, c2⟩ := hcell k d hd
          have HR := Asd.mk (runL_succ room hd)
          have hksd := Nat.le_trans (HS.out d (List.mem_of_getElem? hd)) (show 140737488351232 ≤ 140737488355328 by omega)
          have HDK := Asd.mk hd
          have HLL := Asd.mk (Nat.le_trans HO.out.good.le hr4)
          have HR4 := Asd.mk hr4
          clear hcell hd hk hr hr4
          go_wp2_with fail
          refine (HO.out.did d hksd).mono ?_
          rintro e w4 ⟨rfl, ho4⟩
          have HO4 := Asd.mk ho4
          clear ho4 HO c0 c1 c2
          unfold doV
          go_wp2_with fail
          obtain ⟨c0, c1', c2⟩ := (HD.out.below HO4.out.bel).cells HDK.out
          obtain ⟨A2, cc2, hub, hub2, hst⟩ := HO4.out.step HLL.out d
          have HR2 : Asd (runL room l (k + 1) = (doL room (runL room l k) d).1) := HR
          clear HR
          generalize hLD : doL room (runL room l k) d = LD at *
          clear hLD
          obtain ⟨L', vv, is⟩ := LD
          dsimp only at *
          have HST := Asd.mk hst
          have hubl : ub < w4.heap.size := (Array.getElem?_eq_some_iff.1 hub).1
          have hgl : g < w4.heap.size := World.block_lt_of_cell? _ _ c0
          have hgw : g < w.heap.size := HD.out.lt (by omega)
          clear hg
          have u0 : w4.cell? ⟨ub, 0, none⟩ = some (.int .i64 (room : Int)) := blk_cell hub 0
          have u1 : w4.cell? ⟨ub, 1, none⟩ = some (.slice A2 (runL room l k).length cc2) := blk_cell hub 1
          have uf : ∀ i, w4.frozen? ⟨ub, i, none⟩ = false := fun i => blk_frozen hub i
          have HB4 := Asd.mk HO4.out.bel
          have HKEEP : Asd (∀ W W', (W.cell? ⟨ub, 0, none⟩ = some (.int .i64 (room : Int)) ∧ W.cell? ⟨ub, 1, none⟩ = some (.slice A2 (runL room l k).length cc2) ∧ W.cell? ⟨g, off + k * 3, none⟩ = some (.int .i64 d.kind) ∧ W.cell? ⟨g, off + k * 3 + 1, none⟩ = some (.string d.key) ∧ W.cell? ⟨g, off + k * 3 + 2, none⟩ = some (.int .i64 d.n)) → Fr (fun k => k ≠ ub ∧ k ≠ g) W W' → (W'.cell? ⟨ub, 0, none⟩ = some (.int .i64 (room : Int)) ∧ W'.cell? ⟨ub, 1, none⟩ = some (.slice A2 (runL room l k).length cc2) ∧ W'.cell? ⟨g, off + k * 3, none⟩ = some (.int .i64 d.kind) ∧ W'.cell? ⟨g, off + k * 3 + 1, none⟩ = some (.string d.key) ∧ W'.cell? ⟨g, off + k * 3 + 2, none⟩ = some (.int .i64 d.n))) :=
            ⟨fun W W' ⟨h0, h1, h2, h3, h4⟩ hf => ⟨cell_fr h0 hf fun h => h.1 rfl, cell_fr h1 hf fun h => h.1 rfl, cell_fr h2 hf fun h => h.2 rfl, cell_fr h3 hf fun h => h.2 rfl, cell_fr h4 hf fun h => h.2 rfl⟩⟩
          have HLC : Asd (∀ W v1 xs vb, Stp w W b room L' ub vb (room : Int) (.slice A2 (runL room l k).length cc2) v1 xs → (W.cell? ⟨ub, 0, none⟩ = some (.int .i64 (room : Int)) ∧ W.cell? ⟨ub, 1, none⟩ = some (.slice A2 (runL room l k).length cc2) ∧ W.cell? ⟨g, off + k * 3, none⟩ = some (.int .i64 d.kind) ∧ W.cell? ⟨g, off + k * 3 + 1, none⟩ = some (.string d.key) ∧ W.cell? ⟨g, off + k * 3 + 2, none⟩ = some (.int .i64 d.n)) ∧ (∀ i, W.frozen? ⟨ub, i, none⟩ = false) ∧ ub < W.heap.size ∧ g < W.heap.size) :=
            ⟨fun W v1 xs vb H => by
              have h1 := H.ubBlk
              obtain ⟨a0, a1, a2⟩ := (HD.out.below H.bel).cells HDK.out
              exact ⟨⟨blk_cell h1 0, blk_cell h1 1, a0, a1, a2⟩, fun i => blk_frozen h1 i, blk_lt h1, World.block_lt_of_cell? _ _ a0⟩⟩
          have S4 : w4.cell? ⟨ub, 0, none⟩ = some (.int .i64 (room : Int)) ∧ w4.cell? ⟨ub, 1, none⟩ = some (.slice A2 (runL room l k).length cc2) ∧ w4.cell? ⟨g, off + k * 3, none⟩ = some (.int .i64 d.kind) ∧ w4.cell? ⟨g, off + k * 3 + 1, none⟩ = some (.string d.key) ∧ w4.cell? ⟨g, off + k * 3 + 2, none⟩ = some (.int .i64 d.n) := ⟨u0, u1, c0, c1', c2⟩
          have ne1 : w4.heap.size ≠ ub := by omega
          have ne2 : w4.heap.size ≠ g := by omega
          clear hst hub
          have hugh : g ≠ ub := by omega
          go_region_held3 (fun w' => w'.cell? ⟨ub, 0, none⟩ = some (.int .i64 (room : Int)) ∧ w'.cell? ⟨ub, 1, none⟩ = some (.slice A2 (runL room l k).length cc2) ∧ w'.cell? ⟨g, off + k * 3, none⟩ = some (.int .i64 d.kind) ∧ w'.cell? ⟨g, off + k * 3 + 1, none⟩ = some (.string d.key) ∧ w'.cell? ⟨g, off + k * 3 + 2, none⟩ = some (.int .i64 d.n)) (first | exact S5 | exact HKEEP.out _ _ (by assumption) ((Fr.refl _ _).alloc _) | exact HKEEP.out _ _ S5 ((Fr.refl _ _).alloc _) | exact HKEEP.out _ _ S5 (((Fr.refl _ _).setCell (.inl ⟨nb1, nb2⟩) _).setCell (.inl ⟨nb1, nb2⟩) _) | exact HKEEP.out _ _ S4 (Fr.refl _ _).drew) (first | (go_at_call 24; refine (HST.out _ (Below.refl _ _).drew).mono ?_; rintro e w5 ⟨A3, c3, rfl, hs1, -⟩; have HS1 := Asd.mk hs1; obtain ⟨S5, uf5, ul5, gl5⟩ := HLC.out _ _ _ _ hs1; have u05 := S5.1; have u15 := S5.2.1; have nb1 : w5.heap.size ≠ ub := (by omega); have nb2 : w5.heap.size ≠ g := (by omega); clear hs1) | (go_at_call 24; refine (HST.out _ ((Below.refl _ _).drew.alloc (Nat.le_refl _) _)).mono ?_; rintro e w5 ⟨A3, c3, rfl, -, hs2⟩; obtain ⟨hv, hs1⟩ := hs2 w4.heap.size (Nat.le_refl _) (by simp); have HS1 := Asd.mk hs1; have hv2 := hv.trans (heap_alloc_new _ _); have vc0 := blk_cell hv2 0; have vc1 := blk_cell hv2 1; have vf := blk_frozen hv2; obtain ⟨S5, uf5, ul5, gl5⟩ := HLC.out _ _ _ _ hs1; have u05 := S5.1; have u15 := S5.2.1; have nb1 := ne1; have nb2 := ne2; have HV := Asd.mk hv2; clear hs1 hs2 hv hv2))
          all_goals clear S4 u0 u1 uf c0 c1' c2 HKEEP HLC HST
          all_goals (first | (have hz := HV.out; have HS2 := Asd.mk (HS1.out.fr (((Fr.refl (fun k => k = w4.heap.size) w5).setCell (F := fun k => k = w4.heap.size) (p := ⟨w4.heap.size, 0, none⟩) (.inl rfl) (.int .i64 (room : Int))).setCell (F := fun k => k = w4.heap.size) (p := ⟨w4.heap.size, 1, none⟩) (.inl rfl) (.slice A3 L'.length c3))); have hvb := blk_put (blk_put hz 0 (.int .i64 (room : Int)) rfl) 1 (.slice A3 L'.length c3) rfl; clear hz HV vc0 vc1 vf S5 uf5 ul5 gl5 u05 u15 nb2 HS1; generalize ((w5.setCell ⟨w4.heap.size, 0, none⟩ (.int .i64 (room : Int))).setCell ⟨w4.heap.size, 1, none⟩ (.slice A3 L'.length c3)) = w6 at *; generalize w4.heap.size = vb at *; clear ne1 ne2) | (have HS2 := Asd.mk (HS1.out.fr ((Fr.refl (fun k => k = w5.heap.size) w5).alloc (.cells #[.int .i64 (room : Int), .slice A3 L'.length c3] 50))); have hvb := heap_alloc_new w5 (.cells #[.int .i64 (room : Int), .slice A3 L'.length c3] 50); clear S5 uf5 ul5 gl5 u05 u15 nb2 HS1 ne1 ne2; generalize (w5.alloc (.cells #[.int .i64 (room : Int), .slice A3 L'.length c3] 50)) = w6 at *; generalize w5.heap.size = vb at *))
          all_goals (
            have hub6 := HS2.out.ubBlk
            have x0 : w6.cell? ⟨ub, 0, none⟩ = some (.int .i64 (room : Int)) := blk_cell hub6 0
            have x1 : w6.cell? ⟨ub, 1, none⟩ = some (.slice A2 (runL room l k).length cc2) := blk_cell hub6 1
            have xf : ∀ i, w6.frozen? ⟨ub, i, none⟩ = false := fun i => blk_frozen hub6 i
            have y0 : w6.cell? ⟨vb, 0, none⟩ = some (.int .i64 (room : Int)) := blk_cell hvb 0
            have y1 : w6.cell? ⟨vb, 1, none⟩ = some (.slice A3 L'.length c3) := blk_cell hvb 1
            have ul6 := blk_lt hub6
            have nbs : vb ≠ ub := nb1
            have nbt : ub ≠ vb := fun e => nb1 e.symm
            clear hub6 hvb
            go_wp2_with fail
            have HO5 := Asd.mk HS2.out.close
            generalize ((w6.setCell ⟨ub, 0, none⟩ (.int .i64 (room : Int))).setCell ⟨ub, 1, none⟩ (.slice A3 L'.length c3)) = w7 at *
            have HL1 : Asd (L'.length ≤ 10000) := ⟨Nat.le_trans HO5.out.good.le HR4.out⟩
            clear x0 x1 xf y0 y1 ul6 nbs nbt nb1 HS2
            refine (HO5.out.peek key hks).mono ?_
            rintro e w8 ⟨rfl, ho6⟩
            have HO6 := Asd.mk ho6
            clear ho6 HO5
            obtain ⟨A6, c6, hb6, hp6, -, -, -⟩ := HO6.out.refs HL1.out key
            have z0 : w8.cell? ⟨ub, 0, none⟩ = some (.int .i64 (room : Int)) := blk_cell hb6 0
            have z1 : w8.cell? ⟨ub, 1, none⟩ = some (.slice A6 L'.length c6) := blk_cell hb6 1
            have HP6 := Asd.mk hp6
            clear hb6 hp6
            unfold peekV at *
            generalize (look L' key).getD 0 = nv at *
            generalize (look L' key).isSome = bv at *
            go_wp2_with fail
            refine HP6.out.mono ?_
            rintro e w9 ⟨rfl, hb9⟩
            have HO7 := Asd.mk (HO6.out.below hb9)
            clear hb9 HO6 HP6 z0 z1
            go_wp2_with fail
            refine (HO7.out.next key hks).mono ?_
            rintro e w10 ⟨rfl, ho8⟩
            have HO8 := Asd.mk ho8
            clear ho8 HO7
            obtain ⟨A6, c6, hb6, -, hp6, -, -⟩ := HO8.out.refs HL1.out key
            have z0 : w10.cell? ⟨ub, 0, none⟩ = some (.int .i64 (room : Int)) := blk_cell hb6 0
            have z1 : w10.cell? ⟨ub, 1, none⟩ = some (.slice A6 L'.length c6) := blk_cell hb6 1
            rw [nextV_eq] at *
            have HP6 := Asd.mk hp6
            clear hb6 hp6
            generalize (nextL L' key).getD ⟨#[]⟩ = nk at *
            generalize (nextL L' key).isSome = bk at *
            go_wp2_with fail
            refine HP6.out.mono ?_
            rintro e w11 ⟨rfl, hb11⟩
            have HO9 := Asd.mk (HO8.out.below hb11)
            clear hb11 HO8 HP6 z0 z1
            have t1 : (nv != nv) = false := by simp
            have t2 : (bv != bv) = false := by simp
            have t3 : (nk.toList != nk.toList) = false := by simp
            have t4 : (bk != bk) = false := by simp
            have t5 : (vv != vv) = false := by simp
            have t6 : (is != is) = false := by simp
            have t7 : (nk.toList == nk.toList) = true := by simp
            go_wp2_with fail
            obtain ⟨A7, c7, href⟩ := HO9.out.refKeys HL1.out
            have S11 := (href w11 (Below.refl _ _)).1
            have HREF := Asd.mk href
            clear href
            have t8 : ((L'.length : Int) != (L'.length : Int)) = false := by simp
            go_region_held3 (fun w' => w'.cell? ⟨ub, 0, none⟩ = some (.int .i64 (room : Int)) ∧ w'.cell? ⟨ub, 1, none⟩ = some (.slice A7 L'.length c7)) (first | exact S15 | exact S14 | exact S13 | exact S12 | exact S11) (first | (go_at_call 14; refine ((HO9.out.below (Below.refl _ _).drew).keysB).mono ?_; rintro e w12 ⟨v12, rfl, hs12, hb12⟩; have HS12 := Asd.mk hs12; have HB12 := Asd.mk ((Below.refl _ w11).drew.trans hb12); have S12 := (HREF.out _ HB12.out).1; clear hs12 hb12) | (go_at_call 27; refine ((HREF.out _ HB12.out).2).mono ?_; rintro e w13 ⟨v13, rfl, hs13, hb13⟩; have HS13 := Asd.mk hs13; have HS12' := Asd.mk (HS12.out.below hb13); have HB13 := Asd.mk (HB12.out.trans (hb13.mono HB12.out.size)); have S13 := (HREF.out _ HB13.out).1; clear hs13 hb13) | (go_at_call 17; refine (same_true _ _ _ _ HS12'.out HS13.out).mono ?_; rintro e w14 ⟨rfl, hb14⟩; have HB14 := Asd.mk (HB13.out.trans (hb14.mono HB13.out.size)); have S14 := (HREF.out _ HB14.out).1; clear hb14) | (go_at_call 20; refine ((HO9.out.below HB14.out).lenB).mono ?_; rintro e w15 ⟨rfl, hb15⟩; have HB15 := Asd.mk (HB14.out.trans (hb15.mono HB14.out.size)); have S15 := (HREF.out _ HB15.out).1; clear hb15))
            have HO10 := Asd.mk (HO9.out.below HB15.out)
            clear HO9 HB12 HB13 HB14 HB15 S11 S12 S13 S14 S15 HS12 HS12' HS13 HREF t1 t2 t3 t4 t5 t6 t7 t8
            go_wp2_with fail
            refine HO10.out.oldest.mono ?_
            rintro e w16 ⟨rfl, ho11⟩
            have HO11 := Asd.mk ho11
            clear ho11 HO10
            obtain ⟨A8, c8, hb8, -, -, -, hq8⟩ := HO11.out.refs HL1.out key
            have z0 : w16.cell? ⟨ub, 0, none⟩ = some (.int .i64 (room : Int)) := blk_cell hb8 0
            have z1 : w16.cell? ⟨ub, 1, none⟩ = some (.slice A8 L'.length c8) := blk_cell hb8 1
            have HQ8 := Asd.mk hq8
            clear hb8 hq8
            rcases L' with _ | ⟨⟨qk, qn⟩, L''⟩
            · simp only [List.length_nil] at z1
              clear HQ8
              unfold oldV
              go_wp2_with fail
              go_roundg k1
              case measure => omega
              case rel => exact ⟨k + 1, by go_num, ⟨by have := HK.out; omega⟩, ⟨by rw [HR2.out]; exact HO11.out⟩⟩
            · obtain ⟨g8, o8, rfl, q0, q1⟩ := HQ8.out (qk, qn) rfl
              dsimp only at q0 q1
              have s1 : (qk.toList != qk.toList) = false := by simp
              have s2 : (qk.toList == qk.toList) = true := by simp
              have s3 : (qn != qn) = false := by simp
              simp only [List.length_cons] at z1
              generalize hll : L''.length = m8 at *
              clear HQ8
              unfold oldV
              go_wp2_with fail
              go_roundg k1
              case measure => omega
              case rel => exact ⟨k + 1, by go_num, ⟨by have := HK.out; omega⟩, ⟨by rw [HR2.out]; exact HO11.out⟩⟩)
end Go.Proofs.Ytapclgjelekijaa
