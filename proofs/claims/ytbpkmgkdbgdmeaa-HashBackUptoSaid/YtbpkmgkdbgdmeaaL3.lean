import Derived.Test.YtbpkmgkdbgdmeaaL2
import Derived.Laws.BitsLemmas
/-! HashGoes: the walk. -/
namespace Go.Proofs.Ytbpkmgkdbgdmeaa
open Go.RowKit
set_option linter.unusedSimpArgs false
set_option linter.unusedVariables false

theorem bits_xor_u8_nat (a b : Nat) (ha : a < 256) (hb : b < 256) : bits .xor .u8 (a : Int) (b : Int) = ((a ^^^ b : Nat) : Int) := by
  have hx : a ^^^ b < 2 ^ 8 := Nat.xor_lt_two_pow (by omega) (by omega)
  have h1 : (BitVec.ofInt 8 (a : Int)).toNat = a := by
    rw [BitVec.ofInt_natCast, BitVec.toNat_ofNat]; exact Nat.mod_eq_of_lt (by omega)
  have h2 : (BitVec.ofInt 8 (b : Int)).toNat = b := by
    rw [BitVec.ofInt_natCast, BitVec.toNat_ofNat]; exact Nat.mod_eq_of_lt (by omega)
  show IntKind.u8.wrap ((BitVec.ofInt 8 (a : Int) ^^^ BitVec.ofInt 8 (b : Int)).toNat : Int) = _
  rw [BitVec.toNat_xor, h1, h2, IntKind.wrap_u8]
  omega
theorem str_one (s : ByteArray) (c : UInt8) : (s ++ ⟨#[c]⟩) = ⟨(s.data.toList ++ [c]).toArray⟩ := by
  apply ByteArray.ext
  rw [ByteArray.data_append]
  show s.data ++ #[c] = _
  apply Array.toList_inj.1
  simp
theorem conv_one (w : World) (c : UInt8) : (convert 25 9 (.slice (some ⟨w.heap.size, 0, none⟩) 1 1)).run Try.prog (w.alloc (.cells #[.int .u8 (c.toNat : Int)] 5)) = .ok (.string ⟨#[c]⟩) (w.alloc (.cells #[.int .u8 (c.toNat : Int)] 5)) := by
  have h := run_convert_bytes_arg (P := Try.prog) (w.alloc (.cells #[.int .u8 (c.toNat : Int)] 5)) 25 5 Try.underlying25 Try.underlying5 w.heap.size 0 1 1 [(c.toNat : Int)] rfl (fun j hj => by
    match j, hj with
    | 0, _ => exact cell_of_row _ _ 0 _ _ _ (heap_alloc_new _ _)) 9 Try.underlying9
  rw [h]
  have : strOfNums [(c.toNat : Int)] = ⟨#[c]⟩ := by
    unfold strOfNums
    simp
  rw [this]
/-- A row of bytes that reads as a list reads as a text. -/
theorem conv_row (w : World) (g n c : Nat) (l : List UInt8) (hl : l.length = n) (h : ∀ j b, l[j]? = some b → w.cell? ⟨g, j, none⟩ = some (.int .u8 (b.toNat : Int))) :
    (convert 25 9 (.slice (some ⟨g, 0, none⟩) n c)).run Try.prog w = .ok (.string ⟨l.toArray⟩) w := by
  subst hl
  have h1 := run_convert_bytes_arg (P := Try.prog) w 25 5 Try.underlying25 Try.underlying5 g 0 l.length c (l.map fun b => (b.toNat : Int)) (List.length_map ..) (fun j hj => by
    rw [show 0 + j = j by omega, h j l[j] (List.getElem?_eq_getElem hj), List.getD_eq_getElem?_getD, List.getElem?_map, List.getElem?_eq_getElem hj]
    rfl) 9 Try.underlying9
  rw [h1]
  have : strOfNums (l.map fun b => (b.toNat : Int)) = ⟨l.toArray⟩ := by
    have h2 : (l.map fun b => (b.toNat : Int)).map (fun x => UInt8.ofNat x.toNat) = l := by
      rw [List.map_map]
      exact (List.map_congr_left fun b _ => by simp).trans (List.map_id l)
    unfold strOfNums
    rw [h2]
  rw [this]
theorem bytes_free (w : World) (s : ByteArray) (j : Nat) (hj : j < s.size) : (Lib.bytesWorld w 5 s).frozen? ⟨w.heap.size, j, none⟩ = false := by
  have hz : s.size ≤ (Lib.bytesCells w 5 s).size := by simp [Lib.bytesCells]
  unfold World.frozen?
  rw [Lib.bytesWorld_at_new]
  simp
  omega
theorem flip_byte (b : UInt8) (bit : Nat) : ∃ b' : UInt8, b ≠ b' ∧ bits .xor .u8 (b.toNat : Int) (2 ^ (bit % 8) % 256) = (b'.toNat : Int) := by
  have hm : bit % 8 < 8 := Nat.mod_lt _ (by decide)
  generalize bit % 8 = m at *
  obtain ⟨d, hd, hd0, hdd⟩ : ∃ d : Nat, d < 256 ∧ d ≠ 0 ∧ (2 : Int) ^ m % 256 = (d : Int) := by
    match m, hm with
    | 0, _ => exact ⟨1, by decide, by decide, by decide⟩
    | 1, _ => exact ⟨2, by decide, by decide, by decide⟩
    | 2, _ => exact ⟨4, by decide, by decide, by decide⟩
    | 3, _ => exact ⟨8, by decide, by decide, by decide⟩
    | 4, _ => exact ⟨16, by decide, by decide, by decide⟩
    | 5, _ => exact ⟨32, by decide, by decide, by decide⟩
    | 6, _ => exact ⟨64, by decide, by decide, by decide⟩
    | 7, _ => exact ⟨128, by decide, by decide, by decide⟩
  have hb := b.toNat_lt
  have hx : b.toNat ^^^ d < 256 := Nat.xor_lt_two_pow (n := 8) (by omega) (by omega)
  refine ⟨UInt8.ofNat (b.toNat ^^^ d), fun e => ?_, ?_⟩
  · have h1 : b.toNat = b.toNat ^^^ d := by
      have h2 := congrArg UInt8.toNat e
      rw [UInt8.toNat_ofNat', Nat.mod_eq_of_lt (by omega)] at h2
      exact h2
    have h2 := congrArg (b.toNat ^^^ ·) h1
    simp only [← Nat.xor_assoc, Nat.xor_self, Nat.zero_xor] at h2
    exact hd0 h2.symm
  · rw [hdd, bits_xor_u8_nat _ _ (by omega) hd, UInt8.toNat_ofNat', Nat.mod_eq_of_lt (by omega)]
set_option maxRecDepth 20000 in
set_option maxHeartbeats 2000000 in
theorem goes_law (w : World) (s : ByteArray) (hs : s.size ≤ 140737488351232) (c : Nat) (hc : c < 256) (at' : Nat) (hat : at' < 256) (bit : Nat) (hbit : bit < 256) :
    Calls Try.prog 3 #[.string s, .int .u8 (c : Int), .int .u8 (at' : Int), .int .u8 (bit : Int)] w fun e w' => e = .returned (.bool true) ∧ Below w.heap.size w w' := by
  by_cases hb : 200 < s.size
  · have hb1 : decide ((200 : Int) < (s.size : Int)) = true := decide_eq_true (by omega)
    have HK := Asd.mk (known_calls w)
    go_enter Try.func3, Try.ntmps3
    go_wp2_with fail
    refine HK.out.mono ?_
    rintro e w' ⟨rfl, hb⟩
    have HB := Asd.mk hb
    clear hb
    go_wp2_with fail
    go_ret
    exact ⟨rfl, HB.out⟩
  · have hb1 : decide ((200 : Int) < (s.size : Int)) = false := decide_eq_false (by omega)
    obtain ⟨cb, rfl⟩ : ∃ cb : UInt8, c = cb.toNat := ⟨UInt8.ofNat c, by rw [UInt8.toNat_ofNat']; omega⟩
    have HA := Asd.mk (sum_calls s w (by omega))
    have hcv := conv_one w cb
    have HW1 := Asd.mk ((Below.refl _ w).alloc (Nat.le_refl _) (.cells #[.int .u8 (cb.toNat : Int)] 5))
    have hadd := str_one s cb
    have hsz1 : (⟨(s.data.toList ++ [cb]).toArray⟩ : ByteArray).size = s.size + 1 := by
      show ((s.data.toList ++ [cb]).toArray).size = _
      simp
    have HB := Asd.mk (sum_calls ⟨(s.data.toList ++ [cb]).toArray⟩ (w.alloc (.cells #[.int .u8 (cb.toNat : Int)] 5)) (by omega))
    have hsm : hsum ⟨(s.data.toList ++ [cb]).toArray⟩ = fnv (hsum s) cb.toNat := hsumL_snoc _ _
    rw [hsm] at HB
    have hfnv := fnv_step (hsum s) cb.toNat (hsumL_lt _) hc
    have hlt := fnv_lt (hsum s) cb.toNat
    clear hsm hsz1
    generalize hgh : hsum s = h at *
    have HH := Asd.mk hgh
    clear hgh
    generalize fnv h cb.toNat = h2 at *
    have hwc : IntKind.u64.wrap (cb.toNat : Int) = (cb.toNat : Int) := by rw [IntKind.wrap_u64]; omega
    rw [hwc] at hfnv
    generalize cb.toNat = c at *
    have hsmall : ((s.size : Int) + 1 ≤ 201) := by omega
    by_cases hz : s.size = 0
    · have hzb : ((s.size : Int) == 0) = true := by rw [beq_iff_eq]; omega
      have HK := Asd.mk (known_calls (w.alloc (.cells #[.int .u8 (c : Int)] 5)))
      clear hz
      go_enter Try.func3, Try.ntmps3
      go_wp2_with fail
      refine HA.out.mono ?_
      rintro e w' ⟨rfl, rfl⟩
      go_wp2_with fail
      refine HB.out.mono ?_
      rintro e w' ⟨rfl, rfl⟩
      go_wp2_with fail
      refine HK.out.mono ?_
      rintro e w' ⟨rfl, hb⟩
      have HB := Asd.mk (HW1.out.trans (hb.mono HW1.out.size))
      clear hb
      go_wp2_with fail
      go_ret
      exact ⟨rfl, HB.out⟩
    · have hzb : ((s.size : Int) == 0) = false := beq_eq_false_iff_ne.2 (by omega)
      have hz0 : ¬ ((s.size : Int) = 0) := by omega
      obtain ⟨k, hk⟩ : ∃ k, k = at' % s.size := ⟨_, rfl⟩
      have hkl : k < s.size := by rw [hk]; exact Nat.mod_lt _ (by omega)
      have hkt : (at' : Int).tmod (s.size : Int) = (k : Int) := by rw [hk]; simp [Int.tmod]
      have hke : (at' : Int) % (s.size : Int) = (k : Int) := by rw [hk]; simp
      obtain ⟨b, hbk⟩ : ∃ b, s.data.toList[k]? = some b := ⟨_, List.getElem?_eq_getElem (by rw [Array.length_toList]; exact hkl)⟩
      have hget : s.data.toList.getD k 0 = b := by rw [List.getD_eq_getElem?_getD, hbk]; rfl
      have hb256 : b.toNat < 256 := b.toNat_lt
      have HBK := Asd.mk hbk
      have hk0 : (0 : Int) ≤ (k : Int) := by omega
      have hk1 : (k : Int) < (s.size : Int) := by omega
      have HGET := Asd.mk hget
      clear hk hb hbk hget
      go_enter Try.func3, Try.ntmps3
      go_wp2_with fail
      refine HA.out.mono ?_
      rintro e w' ⟨rfl, rfl⟩
      go_wp2_with fail
      refine HB.out.mono ?_
      rintro e w' ⟨rfl, rfl⟩
      clear hcv
      generalize (w.alloc (.cells #[.int .u8 (c : Int)] 5)) = w1 at *
      have hcv2 := Lib.run_convert_string_bytes (P := Try.prog) w1 9 25 5 s Try.underlying9 Try.underlying25 Try.underlying5
      have HW2 := Asd.mk (HW1.out.trans ((bytes_below (Below.refl w1.heap.size w1) (Nat.le_refl _) 5 s).mono HW1.out.size))
      have HCELL := Asd.mk (fun j hj => Lib.bytesWorld_cell w1 5 s j hj)
      have hf := bytes_free w1 s k hkl
      have hcell := Lib.bytesWorld_cell w1 5 s k hkl
      have hH2 : w.heap.size ≤ w1.heap.size := HW1.out.size
      rw [HGET.out] at hcell
      generalize (Lib.bytesWorld w1 5 s) = w2 at *
      go_upto_region 11 with (fail)
      obtain ⟨b', hne, hx⟩ := flip_byte b bit
      rw [hx]
      have HR3 : Asd (∀ j x, (s.data.toList.set k b')[j]? = some x → (w2.setCell ⟨w1.heap.size, k, none⟩ (.int .u8 (b'.toNat : Int))).cell? ⟨w1.heap.size, j, none⟩ = some (.int .u8 (x.toNat : Int))) := ⟨fun j x hj => by
        by_cases hjk : j = k
        · subst hjk
          rw [List.getElem?_set_self (by rw [Array.length_toList]; exact hkl)] at hj
          injection hj with hj
          subst hj
          exact World.cell?_setCell_same w2 _ _ hcell
        · rw [List.getElem?_set_ne (fun e => hjk e.symm)] at hj
          have hjl : j < s.size := by
            have := (List.getElem?_eq_some_iff.1 hj).1
            rwa [Array.length_toList] at this
          rw [World.cell?_setCell_other _ _ _ _ (fun e => hjk (by injection e with _ e; exact e.symm)), HCELL.out j hjl, List.getD_eq_getElem?_getD, hj]
          rfl⟩
      have HW3 := Asd.mk (HW2.out.setCell (p := ⟨w1.heap.size, k, none⟩) hH2 (.int .u8 (b'.toNat : Int)))
      clear HCELL hf hcell hcv2 hx
      generalize (w2.setCell ⟨w1.heap.size, k, none⟩ (.int .u8 (b'.toNat : Int))) = w3 at *
      have hcv3 := conv_row w3 w1.heap.size s.size (grownCap w1 s.size 0 5) (s.data.toList.set k b') (by rw [List.length_set, Array.length_toList]; rfl) HR3.out
      have hs3 : (⟨(s.data.toList.set k b').toArray⟩ : ByteArray).size ≤ 140737488355328 := by
        show ((s.data.toList.set k b').toArray).size ≤ _
        rw [List.size_toArray, List.length_set, Array.length_toList]
        show s.size ≤ _
        omega
      have HC3 := Asd.mk (sum_calls ⟨(s.data.toList.set k b').toArray⟩ w3 hs3)
      have hn3 : hsum ⟨(s.data.toList.set k b').toArray⟩ ≠ h := by
        rw [← HH.out]
        exact hsumL_set HBK.out hne
      have HK3 := Asd.mk (known_calls w3)
      clear hs3
      generalize hsum ⟨(s.data.toList.set k b').toArray⟩ = h3 at *
      have hnb : ((h3 : Int) != (h : Int)) = true := by rw [bne_iff_ne]; omega
      have hnb2 : ((h3 : Int) == (h : Int)) = false := by rw [beq_eq_false_iff_ne]; omega
      clear hn3 HR3
      go_wp2_with fail
      refine HC3.out.mono ?_
      rintro e w' ⟨rfl, rfl⟩
      go_wp2_with fail
      refine HK3.out.mono ?_
      rintro e w' ⟨rfl, hb⟩
      have HB3 := Asd.mk (HW3.out.trans (hb.mono HW3.out.size))
      clear hb
      go_wp2_with fail
      go_ret
      exact ⟨rfl, HB3.out⟩
end Go.Proofs.Ytbpkmgkdbgdmeaa
