import Derived.Test.YtbpkmgkdbgdmeaaH6b
/-! The replacer of bytes: Replace. -/
namespace Go.Proofs.Ytbpkmgkdbgdmeaa
open Go.RowKit
set_option linter.unusedSimpArgs false
set_option linter.unusedVariables false

theorem BRep.of_heap {w w' : World} {sb : Nat} (H : BRep w sb) (h : w'.heap = w.heap) : BRep w' sb := by
  have hc : ∀ p, w'.cell? p = w.cell? p := fun p => by unfold World.cell?; rw [h]
  have hr : ∀ g s, RowB w g s → RowB w' g s := fun g s r => ⟨by rw [h]; exact r.1, fun i hi => (hc _).trans (r.2 i hi)⟩
  obtain ⟨h1, c1, a1, r1⟩ := H.r58
  obtain ⟨h2, c2, a2, r2⟩ := H.r92
  obtain ⟨tb, t1, t2, t3⟩ := H.t
  exact ⟨fun j a b c => (hc _).trans (H.nil j a b c), ⟨h1, c1, (hc _).trans a1, hr _ _ r1⟩, ⟨h2, c2, (hc _).trans a2, hr _ _ r2⟩, ⟨tb, (hc _).trans t1, (hc _).trans t2, (hc _).trans t3⟩⟩
set_option maxRecDepth 20000 in
set_option maxHeartbeats 4000000 in
theorem rep_calls (w : World) (sb : Nat) (s : ByteArray) (HB : BRep w sb) (hs : s.size ≤ 100000) :
    Calls Try.prog 91 #[.pointer (some ⟨sb, 0, none⟩), .string s] w fun e w' => e = .returned (.string ⟨(escL s.data.toList).toArray⟩) ∧ Below w.heap.size w w' := by
  obtain ⟨tb, t0, t1, t2⟩ := HB.t
  have HBA := Asd.mk HB
  clear HB
  have hne : ∀ a n c' w, (binOp .neq 25 (.slice a n c') (.slice none 0 0)).run Try.prog w = .ok (.bool (!a.isNone)) w := fun a n c' w => Go.run_neq_slice_nil_any w 25 5 a n c' 0 0 Try.underlying25
  go_enter Try.func91, Try.ntmps91
  go_upto_if 26 with (fail)
  go_cut [5, 6] (fun s5 s6 wx => Asd (wx.heap = w.heap) ∧ Asd (Below w.heap.size w wx) ∧ ∃ m : Nat, s5 = .int .i64 (m : Int) ∧ s6 = .bool (decide (s.size < m)) ∧ Asd (m = s.size + nSp s.data.toList))
  case first =>
    by_cases h16 : 16 ≤ s.size
    · have h16c : decide ((16 : Int) ≤ (s.size : Int)) = true := decide_eq_true (by omega)
      rw [h16c]
      clear h16 h16c
      obtain ⟨n1, hn1⟩ : ∃ n : Nat, n = s.data.toList.count 58 := ⟨_, rfl⟩
      obtain ⟨n2, hn2⟩ : ∃ n : Nat, n = s.data.toList.count 92 := ⟨_, rfl⟩
      have HN12 : Asd (nSp s.data.toList = n1 + n2) := ⟨by rw [nSp_counts, hn1, hn2]⟩
      have hlen : s.data.toList.length = s.size := Array.length_toList
      have hb1 : n1 ≤ 100000 := by have := List.count_le_length (a := (58 : UInt8)) (l := s.data.toList); omega
      have hb2 : n2 ≤ 100000 := by have := List.count_le_length (a := (92 : UInt8)) (l := s.data.toList); omega
      clear hlen
      have HC1 := Asd.mk (fun v => count_calls v s b3 58 rfl (fun _ => rfl) n1 hn1)
      have HC2 := Asd.mk (fun v => count_calls v s b1 92 rfl (fun _ => rfl) n2 hn2)
      obtain ⟨h58, c58, k58, -⟩ := HBA.out.r58
      obtain ⟨h92, c92, k92, -⟩ := HBA.out.r92
      clear hn1 hn2 HBA
      have sz1 : b1.size = 1 := rfl
      have sz3 : b3.size = 1 := rfl
      have by1 : ∀ h, (b1[0]'h).toNat = 92 := fun _ => rfl
      have by3 : ∀ h, (b3[0]'h).toNat = 58 := fun _ => rfl
      generalize b1 = s1 at *
      generalize b3 = s3 at *
      go_wp2_with fail
      go_loopg [32, 5, 6] 2 (fun kq v32 v5 v6 wr => (∃ nd, wr = w.drewN nd) ∧ ((kq = 2 ∧ v32 = .int .i64 0 ∧ v5 = .int .i64 (s.size : Int) ∧ v6 = .bool false) ∨ (kq = 1 ∧ v32 = .int .i64 1 ∧ v5 = .int .i64 ((s.size + n1 : Nat) : Int) ∧ v6 = .bool (decide (0 < n1))) ∨
        (kq = 0 ∧ v32 = .int .i64 2 ∧ v5 = .int .i64 ((s.size + n1 + n2 : Nat) : Int) ∧ v6 = .bool (decide (0 < n1 + n2)))))
      case atStart => exact ⟨⟨0, rfl⟩, .inl ⟨rfl, rfl, rfl, rfl⟩⟩
      case round =>
        obtain ⟨⟨nd, rfl⟩, hq⟩ := hrel
        rcases hq with ⟨rfl, rfl, rfl, rfl⟩ | ⟨rfl, rfl, rfl, rfl⟩ | ⟨rfl, rfl, rfl, rfl⟩
        · go_wp2_with fail
          refine (HC1.out _).mono ?_
          rintro e w' ⟨rfl, rfl⟩
          by_cases hz : n1 = 0
          · subst hz
            go_wp2_with fail
            go_roundg 1
            case measure => omega
            case rel => exact ⟨by first | exact ⟨_, rfl⟩ | exact ⟨_, World.drewN_drewN _ _ _⟩, .inr (.inl ⟨rfl, by first | rfl | go_num, by first | rfl | go_num, by first | rfl | simp⟩)⟩
          · have hzb : (((n1 : Nat) : Int) == 0) = false := beq_eq_false_iff_ne.2 (by omega)
            have hz2 : ((n1 : Int) != 0) = true := by simp; omega
            have hm1 : IntKind.i64.wrap ((n1 : Int) * 1) = (n1 : Int) := by rw [Int.mul_one]; exact IntWalk.i64_in _ (by omega)
            have hm2 : IntKind.i64.wrap ((s.size : Int) + (n1 : Int)) = (s.size : Int) + (n1 : Int) := IntWalk.i64_in _ (by omega)
            go_wp2_with fail
            go_quiet (fail)
            go_wp2_with fail
            go_roundg 1
            case measure => omega
            case rel => exact ⟨by first | exact ⟨_, rfl⟩ | exact ⟨_, World.drewN_drewN _ _ _⟩, .inr (.inl ⟨rfl, by first | rfl | go_num, by first | rfl | go_num, by first | rfl | (simp; omega)⟩)⟩
        · go_wp2_with fail
          refine (HC2.out _).mono ?_
          rintro e w' ⟨rfl, rfl⟩
          by_cases hz : n2 = 0
          · subst hz
            go_wp2_with fail
            go_roundg 0
            case measure => omega
            case rel => exact ⟨by first | exact ⟨_, rfl⟩ | exact ⟨_, World.drewN_drewN _ _ _⟩, .inr (.inr ⟨rfl, by first | rfl | go_num, by first | rfl | go_num, by first | rfl | simp⟩)⟩
          · have hzb : (((n2 : Nat) : Int) == 0) = false := beq_eq_false_iff_ne.2 (by omega)
            have hz2 : ((n2 : Int) != 0) = true := by simp; omega
            have hm1 : IntKind.i64.wrap ((n2 : Int) * 1) = (n2 : Int) := by rw [Int.mul_one]; exact IntWalk.i64_in _ (by omega)
            have hm2 : IntKind.i64.wrap (((s.size + n1 : Nat) : Int) + (n2 : Int)) = (s.size : Int) + (n1 : Int) + (n2 : Int) := by rw [IntWalk.i64_in _ (by omega)]; omega
            go_wp2_with fail
            go_quiet (fail)
            go_wp2_with fail
            go_roundg 0
            case measure => omega
            case rel => exact ⟨by first | exact ⟨_, rfl⟩ | exact ⟨_, World.drewN_drewN _ _ _⟩, .inr (.inr ⟨rfl, by first | rfl | go_num, by first | rfl | go_num, by first | rfl | (simp; omega)⟩)⟩
        · go_wp2_with fail
          go_meet
          refine ⟨⟨World.heap_drewN _ _⟩, ⟨⟨rfl, rfl, rfl, Nat.le_refl _, fun _ _ => rfl⟩⟩, s.size + n1 + n2, rfl, ?_, ⟨by rw [HN12.out]; omega⟩⟩
          have e : decide (0 < n1 + n2) = decide (s.size < s.size + n1 + n2) := decide_eq_decide.2 (by omega)
          rw [e]
    · have h16b : decide (16 ≤ s.size) = false := decide_eq_false h16
      have h16c : decide ((16 : Int) ≤ (s.size : Int)) = false := decide_eq_false (by omega)
      clear h16
      rw [h16c]
      go_wp2_with fail
      go_loopg [5, 6, 10] s.size (fun kq v5 v6 v10 wr => ∃ k m : Nat, wr = w ∧ v10 = .int .i64 (k : Int) ∧ v5 = .int .i64 (m : Int) ∧ v6 = .bool (decide (s.size < m)) ∧ Asd (kq + k = s.size) ∧ Asd (m = s.size + nSp (s.data.toList.take k)))
      case atStart => exact ⟨0, s.size, rfl, rfl, rfl, by simp, ⟨by omega⟩, ⟨by simp [nSp]⟩⟩
      case round =>
        obtain ⟨k, m, hwr, rfl, rfl, rfl, HK, HM⟩ := hrel
        obtain rfl := hwr.symm
        cases gk with
        | zero =>
          obtain rfl : k = s.size := by have := HK.out; omega
          have hlt2 : decide (s.size < s.size) = false := by simp
          have HM2 : Asd (m = s.size + nSp s.data.toList) := ⟨by
            have h := HM.out
            rw [List.take_of_length_le (by rw [Array.length_toList]; exact Nat.le_refl _)] at h
            exact h⟩
          go_wp2_with fail
          go_meet
          exact ⟨⟨rfl⟩, ⟨Below.refl _ _⟩, m, rfl, rfl, HM2⟩
        | succ k1 =>
          have hlt : k < s.size := by have := HK.out; omega
          have hlt2 : decide (k < s.size) = true := decide_eq_true hlt
          obtain ⟨b, hb⟩ : ∃ b, s.data.toList[k]? = some b := ⟨_, List.getElem?_eq_getElem (by rw [Array.length_toList]; exact hlt)⟩
          have hbk : ∀ h, (s[k]'h).toNat = b.toNat := fun h => by
            have h2 : s.data.toList[k]? = some (s.data.toList[k]'(by rw [Array.length_toList]; exact hlt)) := List.getElem?_eq_getElem _
            rw [hb] at h2
            injection h2 with h2
            rw [h2]
            rfl
          have hm : m ≤ 300000 := by
            have h1 := HM.out
            have h2 : nSp (s.data.toList.take k) ≤ (s.data.toList.take k).length := List.countP_le_length
            rw [List.length_take] at h2
            omega
          have hmb : s.size ≤ m := by have := HM.out; omega
          have HT := Asd.mk (nSp_take hb)
          have hb256 : b.toNat < 256 := UInt8.toNat_lt b
          rcases HBA.out.at b with ⟨hsp, hc⟩ | ⟨hsp, h, c, hc, -, -⟩
          · have HSP := Asd.mk hsp
            clear hb hsp
            generalize b.toNat = bn at *
            go_wp2_with fail
            go_roundg k1
            case measure => omega
            case rel => exact ⟨k + 1, m, rfl, by go_num, rfl, rfl, ⟨by have := HK.out; omega⟩, ⟨by rw [HT.out, HSP.out]; have := HM.out; simpa using this⟩⟩
          · have HSP := Asd.mk hsp
            clear hb hsp
            generalize b.toNat = bn at *
            go_wp2_with fail
            go_roundg k1
            case measure => omega
            case rel => exact ⟨k + 1, m + 1, rfl, by go_num, by go_num, by simp; omega, ⟨by have := HK.out; omega⟩, ⟨by rw [HT.out, HSP.out]; have := HM.out; simp; omega⟩⟩
  case rest =>
    obtain ⟨HH, HW, m, rfl, rfl, HM⟩ := hcut
    have HBA2 : Asd (BRep wc sb) := ⟨HBA.out.of_heap HH.out⟩
    have FIN : Asd (∀ w', Below wc.heap.size wc w' → Below w.heap.size w w') := ⟨fun w' h => HW.out.trans (h.mono (by rw [HH.out]; exact Nat.le_refl _))⟩
    clear t0 t1 t2 HBA
    obtain ⟨tb2, t0, t1, t2⟩ := HBA2.out.t
    have hall : s.data.toList.take s.size = s.data.toList := List.take_of_length_le (by rw [Array.length_toList]; exact Nat.le_refl _)
    by_cases hz : nSp s.data.toList = 0
    · have hm2 : decide (s.size < m) = false := by
        have := HM.out
        rw [hz] at this
        simp
        omega
      rw [hm2]
      have HE := Asd.mk (escL_id hz)
      clear hall hz hm2
      go_wp2_with fail
      go_ret
      have e : (⟨(escL s.data.toList).toArray⟩ : ByteArray) = s := by rw [HE.out, Array.toArray_toList]
      exact ⟨congrArg (fun x => Ending.returned (Value.string x)) e.symm, HW.out⟩
    · have hm2 : decide (s.size < m) = true := by
        have := HM.out
        simp
        omega
      rw [hm2]
      have hml : m ≤ 300000 := by
        have h1 := HM.out
        have h2 : nSp s.data.toList ≤ s.data.toList.length := List.countP_le_length
        rw [Array.length_toList] at h2
        have h3 : s.data.size = s.size := rfl
        omega
      obtain ⟨i0, hi, hz0, hz1, hz2⟩ := info_parts info5
      have hrun : (Instr.makeSlice 25 (.int .i64 (m : Int)) (.int .i64 (m : Int))).run Try.prog wc = .ok (.slice (some ⟨wc.heap.size, 0, none⟩) m m) (wc.alloc (.cells (bufOf [] m).toArray 5)) := by
        have h := run_make (P := Try.prog) wc 25 5 i0 (.int .u8 0) Try.underlying25 hi hz0 .i64 .i64 (m : Int) (m : Int) (by omega) (by omega) (by rw [hz2]; omega) (by omega)
        rw [hz1] at h
        simp only [Int.toNat_natCast] at h
        rw [made_zero] at h
        exact h
      have HG0 := Asd.mk (heap_alloc_new wc (.cells (bufOf [] m).toArray 5))
      have HG1 := Asd.mk ((Below.refl _ wc).alloc (Nat.le_refl _) (.cells (bufOf [] m).toArray 5))
      generalize (wc.alloc (.cells (bufOf [] m).toArray 5)) = w1 at *
      clear hz hm2
      go_wp2_with fail
      go_loopg [13, 14] s.size (fun kq v13 v14 wr => ∃ k j : Nat, v14 = .int .i64 (k : Int) ∧ v13 = .int .i64 (j : Int) ∧ Asd (kq + k = s.size) ∧ Asd (j = (escL (s.data.toList.take k)).length) ∧
        Asd (wr.heap[wc.heap.size]? = some (.cells (bufOf (escL (s.data.toList.take k)) m).toArray 5 (0, 0))) ∧ Asd (Below wc.heap.size wc wr))
      case atStart => exact ⟨0, 0, rfl, rfl, ⟨by omega⟩, ⟨by simp [escL]⟩, ⟨by simpa [escL] using HG0.out⟩, HG1⟩
      case round =>
        obtain ⟨k, j, rfl, rfl, HK2, HJ, HBF, HBE⟩ := hrel
        cases gk with
        | zero =>
          obtain rfl : k = s.size := by have := HK2.out; omega
          have hlt3 : decide (s.size < s.size) = false := by simp
          have hml2 : (escL s.data.toList).length = m := by
            have h1 := HM.out
            have h3 : s.data.size = s.size := rfl
            rw [escL_length, Array.length_toList]
            omega
          have hbf := HBF.out
          rw [hall, ← hml2, bufOf_full] at hbf
          have hcv := conv_buf hbf (escL s.data.toList).length
          rw [hml2] at hcv
          have HBE2 := HBE
          clear hbf hml2
          go_wp2_with fail
          go_ret
          exact ⟨rfl, FIN.out _ HBE2.out⟩
        | succ k1 =>
          have hlt : k < s.size := by have := HK2.out; omega
          have hlt3 : decide (k < s.size) = true := decide_eq_true hlt
          obtain ⟨b, hb⟩ : ∃ b, s.data.toList[k]? = some b := ⟨_, List.getElem?_eq_getElem (by rw [Array.length_toList]; exact hlt)⟩
          have hbk : ∀ h, (s[k]'h).toNat = b.toNat := fun h => by
            have h2 : s.data.toList[k]? = some (s.data.toList[k]'(by rw [Array.length_toList]; exact hlt)) := List.getElem?_eq_getElem _
            rw [hb] at h2
            injection h2 with h2
            rw [h2]
            rfl
          have HET := Asd.mk (escL_take hb)
          have hjm : (escL (s.data.toList.take (k + 1))).length ≤ m := by
            have h1 := HM.out
            have h2 : (escL s.data.toList).length = m := by
              have h3 : s.data.size = s.size := rfl
              rw [escL_length, Array.length_toList]
              omega
            have h3 : escL s.data.toList = escL (s.data.toList.take (k + 1)) ++ escL (s.data.toList.drop (k + 1)) := by
              unfold escL
              rw [← List.flatMap_append, List.take_append_drop]
            rw [← h2, h3, List.length_append]
            omega
          have hb256 : b.toNat < 256 := UInt8.toNat_lt b
          rcases HBA2.out.at b with ⟨hsp, hc⟩ | ⟨hsp, h, c, hc, hc0, hc1⟩
          · have he1 : esc1 b = [b] := by unfold esc1; rw [hsp]; rfl
            rw [HET.out, he1, List.length_append] at hjm
            have hj := HJ.out
            have hjm2 : j < m := by simp at hjm; omega
            have hcw := (HBE.out.cell (p := ⟨sb, b.toNat, none⟩) (World.block_lt_of_cell? _ _ hc)).trans hc
            have hcj : wr.cell? ⟨wc.heap.size, j, none⟩ = some (.int .u8 0) := by
              rw [cell_of_row _ _ j _ _ _ HBF.out, List.getElem?_toArray]
              unfold bufOf
              rw [List.getElem?_append_right (by rw [bcells_length]; omega), List.getElem?_replicate, if_pos (by rw [bcells_length]; omega)]
            have hfj : ∀ i, wr.frozen? ⟨wc.heap.size, i, none⟩ = false := fun i => by unfold World.frozen?; rw [HBF.out]; simp
            have hjmb : decide (j < m) = true := decide_eq_true hjm2
            have HN : Asd ((wr.setCell ⟨wc.heap.size, j, none⟩ (.int .u8 (b.toNat : Int))).heap[wc.heap.size]? = some (.cells (bufOf (escL (s.data.toList.take (k + 1))) m).toArray 5 (0, 0))) := ⟨by
              rw [heap_setCell_same wr wc.heap.size j _ 5 _ HBF.out, HET.out, he1, ← bufOf_snoc (by omega), hj]
              simp⟩
            have HNB := Asd.mk (HBE.out.setCell (p := ⟨wc.heap.size, j, none⟩) (Nat.le_refl _) (.int .u8 (b.toNat : Int)))
            have HNJ : Asd (j + 1 = (escL (s.data.toList.take (k + 1))).length) := ⟨by rw [HET.out, he1, List.length_append, ← hj]; rfl⟩
            clear hb hsp hj hjm he1 hc
            generalize b.toNat = bn at *
            go_wp2_with fail
            go_roundg k1
            case measure => omega
            case rel => exact ⟨k + 1, j + 1, by go_num, by go_num, ⟨by have := HK2.out; omega⟩, HNJ, HN, HNB⟩
          · have he1 : esc1 b = [92, b] := by unfold esc1; rw [hsp]; rfl
            rw [HET.out, he1, List.length_append] at hjm
            have hj := HJ.out
            have hjm2 : j + 2 ≤ m := by simp at hjm; omega
            have hcw := (HBE.out.cell (p := ⟨sb, b.toNat, none⟩) (World.block_lt_of_cell? _ _ hc)).trans hc
            have hcw0 := (HBE.out.cell (p := ⟨h, 0, none⟩) (World.block_lt_of_cell? _ _ hc0)).trans hc0
            have hcw1 := (HBE.out.cell (p := ⟨h, 1, none⟩) (World.block_lt_of_cell? _ _ hc1)).trans hc1
            have HNJ : Asd (j + 2 = (escL (s.data.toList.take (k + 1))).length) := ⟨by rw [HET.out, he1, List.length_append, ← hj]; rfl⟩
            have hsz5 : (Try.prog.info? 5).map (·.size) = some 1 := by kernel_rfl
            have hbl := bufOf_length (l := escL (s.data.toList.take k)) (m := m) (by omega)
            have hsrc : ∀ (i : Nat) (v : Value), [Value.int .u8 92, .int .u8 (b.toNat : Int)][i]? = some v → wr.cell? ((⟨h, 0, none⟩ : Addr).add i) = some v := by
              intro i v hv
              have hadd : (⟨h, 0, none⟩ : Addr).add i = ⟨h, i, none⟩ := by rw [Addr.add_mid]; simp
              rw [hadd]
              match i, hv with
              | 0, hv => simp at hv; rw [← hv]; exact hcw0
              | 1, hv => simp at hv; rw [← hv]; exact hcw1
            have HSRC : Asd (∀ (i : Nat) (v : Value), [Value.int .u8 92, .int .u8 (b.toNat : Int)][i]? = some v → wr.drew.cell? ((⟨h, 0, none⟩ : Addr).add i) = some v) := ⟨hsrc⟩
            have HJ2 := Asd.mk hj
            have HC := Asd.mk hc
            have HBF2 : Asd (wr.drew.heap[wc.heap.size]? = some (.cells (bufOf (escL (s.data.toList.take k)) m).toArray 5 (0, 0))) := ⟨HBF.out⟩
            have HBE2 : Asd (Below wc.heap.size wc wr.drew) := ⟨HBE.out.drew⟩
            have hmj : j ≤ m := by omega
            have HMIN : Asd ([Value.int .u8 92, .int .u8 (b.toNat : Int)].length = Nat.min 2 (m - j)) := ⟨by
              have : Nat.min 2 (m - j) = 2 := Nat.min_eq_left (by omega)
              rw [this]; rfl⟩
            have HFIT : Asd (j + [Value.int .u8 92, .int .u8 (b.toNat : Int)].length ≤ (bufOf (escL (s.data.toList.take k)) m).length) := ⟨by rw [hbl]; exact hjm2⟩
            have HBI : (b.toNat : Int) < 256 := by omega
            obtain ⟨w4, hcp, HN, HNB, S2⟩ : ∃ w4, (Builtin.copy_ #[25, 25] 3 #[.slice (some ⟨wc.heap.size, j, none⟩) (m - j) (m - j), .slice (some ⟨h, 0, none⟩) 2 c]).run Try.prog wr.drew = .ok (.int .i64 2) w4 ∧
                Asd (w4.heap[wc.heap.size]? = some (.cells (bufOf (escL (s.data.toList.take (k + 1))) m).toArray 5 (0, 0))) ∧ Asd (Below wc.heap.size wc w4) ∧ w4.cell? ⟨sb, b.toNat, none⟩ = some (.slice (some ⟨h, 0, none⟩) 2 c) := by
              have hr := run_copy_row (P := Try.prog) wr.drew 25 25 3 5 wc.heap.size j (m - j) (m - j) ⟨h, 0, none⟩ 2 c _ 5 [Value.int .u8 92, .int .u8 (b.toNat : Int)] Try.underlying25 hsz5 HBF2.out HMIN.out HSRC.out HFIT.out (by simp [Value.oneCell'])
              have hnb : Below wc.heap.size wc (wr.drew.setRow wc.heap.size ((bufOf (escL (s.data.toList.take k)) m).take j ++ [Value.int .u8 92, .int .u8 (b.toNat : Int)] ++ (bufOf (escL (s.data.toList.take k)) m).drop (j + 2)).toArray) := below_setRow HBE2.out (Nat.le_refl _) _
              refine ⟨_, hr, ⟨?_⟩, ⟨hnb⟩, (hnb.cell (p := ⟨sb, b.toNat, none⟩) (World.block_lt_of_cell? _ _ HC.out)).trans HC.out⟩
              rw [HET.out, he1, ← bufOf_two _ _ _ (by rw [← HJ2.out]; omega), ← HJ2.out]
              exact setRow_heap wr.drew wc.heap.size _ _ 5 _ HBF2.out
            clear hb hsp hjm hc hc0 hc1 hsrc hj hbl hcw0 hcw1 he1
            generalize hbn : b.toNat = bn at *
            have HBN := Asd.mk hbn
            clear hbn
            have hbn0 : (0 : Int) ≤ (bn : Int) := by omega
            go_wp2_with fail
            go_region_held3 (fun wc' => wc'.cell? ⟨sb, bn, none⟩ = some (.slice (some ⟨h, 0, none⟩) 2 c)) (first | exact hcw | exact S2 | fail) (fail)
            go_wp2_with fail
            go_roundg k1
            case measure => omega
            case rel => exact ⟨k + 1, j + 2, by go_num, by (try rw [IntWalk.i64_in _ (by omega)]); go_num, ⟨by have := HK2.out; omega⟩, HNJ, HN, HNB⟩
end Go.Proofs.Ytbpkmgkdbgdmeaa
