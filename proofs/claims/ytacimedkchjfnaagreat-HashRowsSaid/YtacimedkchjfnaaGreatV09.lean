/- Part 9 of the proof: H6b, H6, K0, K1, K2, K3, L0, L1. -/
import Derived.Test.YtacimedkchjfnaaGreatV08
import Derived.Laws.CopyOwn
import Derived.Deep.RegionLaw
import Derived.Lib.Bytealg
import Derived.BigQuiet
import Derived.IntWalk
import Derived.Shelf.Strings.BuilderK
import Derived.Laws.Bits64
section
/-! The replacer of bytes: Replace. -/
namespace Go.Proofs.YtacimedkchjfnaaGreat
open Go.RowKit
set_option linter.unusedSimpArgs false
set_option linter.unusedVariables false

def bcells (l : List UInt8) : List Value := l.map fun b => Value.int .u8 (b.toNat : Int)
theorem bcells_length (l : List UInt8) : (bcells l).length = l.length := List.length_map ..
/-- The buffer so far. -/
def bufOf (l : List UInt8) (m : Nat) : List Value := bcells l ++ List.replicate (m - l.length) (.int .u8 0)
theorem bufOf_full (l : List UInt8) : bufOf l l.length = bcells l := by unfold bufOf; simp
theorem conv_buf {w : World} {g : Nat} {l : List UInt8} (h : w.heap[g]? = some (.cells (bcells l).toArray 5 (0, 0))) (c : Nat) :
    (convert 40 9 (.slice (some ⟨g, 0, none⟩) l.length c)).run Tryz.prog w = .ok (.string ⟨l.toArray⟩) w := by
  have h1 := run_convert_bytes_arg (P := Tryz.prog) w 40 5 Tryz.underlying40 Tryz.underlying5 g 0 l.length c (l.map fun b => (b.toNat : Int)) (List.length_map ..) (fun j hj => by
    rw [show 0 + j = j by omega, cell_of_row _ _ j _ _ _ h, List.getElem?_toArray]
    unfold bcells
    rw [List.getElem?_map, List.getElem?_eq_getElem hj, List.getD_eq_getElem?_getD, List.getElem?_map, List.getElem?_eq_getElem hj]
    simp only [Option.map_some, Option.getD_some]) 9 Tryz.underlying9
  rw [h1]
  have : strOfNums (l.map fun b => (b.toNat : Int)) = ⟨l.toArray⟩ := by
    have h2 : (l.map fun b => (b.toNat : Int)).map (fun x => UInt8.ofNat x.toNat) = l := by
      rw [List.map_map]
      exact (List.map_congr_left fun b _ => by simp).trans (List.map_id l)
    unfold strOfNums
    rw [h2]
  rw [this]
theorem made_zero (m : Nat) : madeCells (Value.int .u8 0).cells (m * 1) = (bufOf [] m).toArray := by
  apply Array.ext
  · simp [madeCells, bufOf, bcells]
  · intro i h1 h2
    simp [madeCells, bufOf, bcells, Value.cells, Nat.mod_one]
theorem bufOf_snoc {l : List UInt8} {m : Nat} (h : l.length < m) (b : UInt8) : (bufOf l m).set l.length (.int .u8 (b.toNat : Int)) = bufOf (l ++ [b]) m := by
  unfold bufOf
  rw [List.set_append_right _ _ (by rw [bcells_length]; exact Nat.le_refl _), bcells_length, Nat.sub_self]
  obtain ⟨n, hn⟩ : ∃ n, m - l.length = n + 1 := ⟨m - l.length - 1, by omega⟩
  rw [hn, List.replicate_succ, List.set_cons_zero]
  unfold bcells
  rw [List.map_append, List.append_assoc, List.length_append, List.length_singleton, show m - (l.length + 1) = n by omega]
  rfl
theorem bufOf_two (l : List UInt8) (m : Nat) (b : UInt8) (h : l.length + 2 ≤ m) : (bufOf l m).take l.length ++ [.int .u8 92, .int .u8 (b.toNat : Int)] ++ (bufOf l m).drop (l.length + 2) = bufOf (l ++ [92, b]) m := by
  obtain ⟨n, hn⟩ : ∃ n, m - l.length = n + 2 := ⟨m - l.length - 2, by omega⟩
  have hl := bcells_length l
  unfold bufOf
  rw [hn, List.take_append_of_le_length (by omega), List.take_of_length_le (by omega), List.drop_append, List.drop_eq_nil_of_le (by omega), hl, show l.length + 2 - l.length = 2 by omega, List.drop_replicate, List.nil_append, List.length_append, show m - (l.length + [92, b].length) = n by simp; omega, show n + 2 - 2 = n by omega]
  unfold bcells
  rw [List.map_append]
  rfl
theorem bufOf_length {l : List UInt8} {m : Nat} (h : l.length ≤ m) : (bufOf l m).length = m := by
  unfold bufOf
  rw [List.length_append, bcells_length, List.length_replicate]
  omega
theorem BRep.at {w : World} {sb : Nat} (H : BRep w sb) (b : UInt8) : (isSp b = false ∧ w.cell? ⟨sb, b.toNat, none⟩ = some (.slice none 0 0)) ∨
    (isSp b = true ∧ ∃ h c, w.cell? ⟨sb, b.toNat, none⟩ = some (.slice (some ⟨h, 0, none⟩) 2 c) ∧ w.cell? ⟨h, 0, none⟩ = some (.int .u8 92) ∧ w.cell? ⟨h, 1, none⟩ = some (.int .u8 (b.toNat : Int))) := by
  by_cases h1 : b = 58
  · subst h1
    obtain ⟨h, c, a, r⟩ := H.r58
    exact .inr ⟨rfl, h, c, a, r.2 0 (by decide), r.2 1 (by decide)⟩
  · by_cases h2 : b = 92
    · subst h2
      obtain ⟨h, c, a, r⟩ := H.r92
      exact .inr ⟨rfl, h, c, a, r.2 0 (by decide), r.2 1 (by decide)⟩
    · refine .inl ⟨by simp [isSp, h1, h2], H.nil _ (UInt8.toNat_lt b) (fun e => h1 (UInt8.toNat_inj.1 e)) (fun e => h2 (UInt8.toNat_inj.1 e))⟩

/-- strings.Count of one byte. -/
theorem count_calls (w : World) (s x : ByteArray) (c : UInt8) (hx : x.size = 1) (hc : ∀ h, (x[0]'h).toNat = c.toNat) (n : Nat) (hn : n = s.data.toList.count c) :
    Calls Tryz.prog 114 #[.string s, .string x] w fun e w' => e = .returned (.int .i64 (n : Int)) ∧ w = w' := by
  have h1 : (((1 : Nat) : Int) == 0) = false := rfl
  have HR : Asd ((callFunc 116 #[.string s, .int .u8 (c.toNat : Int)]).run Tryz.prog w = .ok (.value (.int .i64 (n : Int))) w) := ⟨by
    rw [run_callFunc_extern Tryz.func116 (by kernel_rfl) (by kernel_rfl) (by kernel_rfl) (e := Extern.BytealgCount.count) (by kernel_rfl), Lib.run_countString]
    rw [hn]
    simp [Result.andThen, Lib.countByte]⟩
  clear hn
  go_enter Tryz.func114, Tryz.ntmps114
  have hr := HR.out
  go_wp2
  go_ret
  exact ⟨rfl, rfl⟩
end Go.Proofs.YtacimedkchjfnaaGreat
end

section
/-! The replacer of bytes: Replace. -/
namespace Go.Proofs.YtacimedkchjfnaaGreat
open Go.RowKit
set_option linter.unusedSimpArgs false
set_option linter.unusedVariables false

theorem BRep.of_heap {w w' : World} {sb : Nat} (H : BRep w sb) (h : w'.heap = w.heap) : BRep w' sb := by
  have hc : ∀ p, w'.cell? p = w.cell? p := fun p => by unfold World.cell?; rw [h]
  have hr : ∀ g s, RowB w g s → RowB w' g s := fun g s r => ⟨by rw [h]; exact r.1, fun i hi => (hc _).trans (r.2 i hi)⟩
  obtain ⟨h1, c1, a1, r1⟩ := H.r58
  obtain ⟨h2, c2, a2, r2⟩ := H.r92
  obtain ⟨tb, t1, t2, t3⟩ := H.t
  exact ⟨fun j a b c => (hc _).trans (H.nil j a b c), ⟨h1, c1, (hc _).trans a1, hr _ _ r1⟩, ⟨h2, c2, (hc _).trans a2, hr _ _ r2⟩, ⟨tb, (hc _).trans t1, (hc _).trans t2, (hc _).trans t3⟩⟩
set_option maxRecDepth 20000 in
set_option maxHeartbeats 4000000 in
theorem rep_calls (w : World) (sb : Nat) (s : ByteArray) (HB : BRep w sb) (hs : s.size ≤ 100000) :
    Calls Tryz.prog 112 #[.pointer (some ⟨sb, 0, none⟩), .string s] w fun e w' => e = .returned (.string ⟨(escL s.data.toList).toArray⟩) ∧ Below w.heap.size w w' := by
  obtain ⟨tb, t0, t1, t2⟩ := HB.t
  have HBA := Asd.mk HB
  clear HB
  have hne : ∀ a n c' w, (binOp .neq 40 (.slice a n c') (.slice none 0 0)).run Tryz.prog w = .ok (.bool (!a.isNone)) w := fun a n c' w => Go.run_neq_slice_nil_any w 40 5 a n c' 0 0 Tryz.underlying40
  go_enter Tryz.func112, Tryz.ntmps112
  go_upto_if 26 with (fail)
  go_cut [5, 6] (fun s5 s6 wx => Asd (wx.heap = w.heap) ∧ Asd (Below w.heap.size w wx) ∧ ∃ m : Nat, s5 = .int .i64 (m : Int) ∧ s6 = .bool (decide (s.size < m)) ∧ Asd (m = s.size + nSp s.data.toList))
  case first =>
    by_cases h16 : 16 ≤ s.size
    · have h16c : decide ((16 : Int) ≤ (s.size : Int)) = true := decide_eq_true (by omega)
      rw [h16c]
      clear h16 h16c
      obtain ⟨n1, hn1⟩ : ∃ n : Nat, n = s.data.toList.count 58 := ⟨_, rfl⟩
      obtain ⟨n2, hn2⟩ : ∃ n : Nat, n = s.data.toList.count 92 := ⟨_, rfl⟩
      have HN12 : Asd (nSp s.data.toList = n1 + n2) := ⟨by rw [nSp_counts, hn1, hn2]⟩
      have hlen : s.data.toList.length = s.size := Array.length_toList
      have hb1 : n1 ≤ 100000 := by have := List.count_le_length (a := (58 : UInt8)) (l := s.data.toList); omega
      have hb2 : n2 ≤ 100000 := by have := List.count_le_length (a := (92 : UInt8)) (l := s.data.toList); omega
      clear hlen
      have HC1 := Asd.mk (fun v => count_calls v s b3 58 rfl (fun _ => rfl) n1 hn1)
      have HC2 := Asd.mk (fun v => count_calls v s b1 92 rfl (fun _ => rfl) n2 hn2)
      obtain ⟨h58, c58, k58, -⟩ := HBA.out.r58
      obtain ⟨h92, c92, k92, -⟩ := HBA.out.r92
      clear hn1 hn2 HBA
      have sz1 : b1.size = 1 := rfl
      have sz3 : b3.size = 1 := rfl
      have by1 : ∀ h, (b1[0]'h).toNat = 92 := fun _ => rfl
      have by3 : ∀ h, (b3[0]'h).toNat = 58 := fun _ => rfl
      generalize b1 = s1 at *
      generalize b3 = s3 at *
      go_wp2_with fail
      go_loopg [32, 5, 6] 2 (fun kq v32 v5 v6 wr => (∃ nd, wr = w.drewN nd) ∧ ((kq = 2 ∧ v32 = .int .i64 0 ∧ v5 = .int .i64 (s.size : Int) ∧ v6 = .bool false) ∨ (kq = 1 ∧ v32 = .int .i64 1 ∧ v5 = .int .i64 ((s.size + n1 : Nat) : Int) ∧ v6 = .bool (decide (0 < n1))) ∨
        (kq = 0 ∧ v32 = .int .i64 2 ∧ v5 = .int .i64 ((s.size + n1 + n2 : Nat) : Int) ∧ v6 = .bool (decide (0 < n1 + n2)))))
      case atStart => exact ⟨⟨0, rfl⟩, .inl ⟨rfl, rfl, rfl, rfl⟩⟩
      case round =>
        obtain ⟨⟨nd, rfl⟩, hq⟩ := hrel
        rcases hq with ⟨rfl, rfl, rfl, rfl⟩ | ⟨rfl, rfl, rfl, rfl⟩ | ⟨rfl, rfl, rfl, rfl⟩
        · go_wp2_with fail
          refine (HC1.out _).mono ?_
          rintro e w' ⟨rfl, rfl⟩
          by_cases hz : n1 = 0
          · subst hz
            go_wp2_with fail
            go_roundg 1
            case measure => omega
            case rel => exact ⟨by first | exact ⟨_, rfl⟩ | exact ⟨_, World.drewN_drewN _ _ _⟩, .inr (.inl ⟨rfl, by first | rfl | go_num, by first | rfl | go_num, by first | rfl | simp⟩)⟩
          · have hzb : (((n1 : Nat) : Int) == 0) = false := beq_eq_false_iff_ne.2 (by omega)
            have hz2 : ((n1 : Int) != 0) = true := by simp; omega
            have hm1 : IntKind.i64.wrap ((n1 : Int) * 1) = (n1 : Int) := by rw [Int.mul_one]; exact IntWalk.i64_in _ (by omega)
            have hm2 : IntKind.i64.wrap ((s.size : Int) + (n1 : Int)) = (s.size : Int) + (n1 : Int) := IntWalk.i64_in _ (by omega)
            go_wp2_with fail
            go_quiet (fail)
            go_wp2_with fail
            go_roundg 1
            case measure => omega
            case rel => exact ⟨by first | exact ⟨_, rfl⟩ | exact ⟨_, World.drewN_drewN _ _ _⟩, .inr (.inl ⟨rfl, by first | rfl | go_num, by first | rfl | go_num, by first | rfl | (simp; omega)⟩)⟩
        · go_wp2_with fail
          refine (HC2.out _).mono ?_
          rintro e w' ⟨rfl, rfl⟩
          by_cases hz : n2 = 0
          · subst hz
            go_wp2_with fail
            go_roundg 0
            case measure => omega
            case rel => exact ⟨by first | exact ⟨_, rfl⟩ | exact ⟨_, World.drewN_drewN _ _ _⟩, .inr (.inr ⟨rfl, by first | rfl | go_num, by first | rfl | go_num, by first | rfl | simp⟩)⟩
          · have hzb : (((n2 : Nat) : Int) == 0) = false := beq_eq_false_iff_ne.2 (by omega)
            have hz2 : ((n2 : Int) != 0) = true := by simp; omega
            have hm1 : IntKind.i64.wrap ((n2 : Int) * 1) = (n2 : Int) := by rw [Int.mul_one]; exact IntWalk.i64_in _ (by omega)
            have hm2 : IntKind.i64.wrap (((s.size + n1 : Nat) : Int) + (n2 : Int)) = (s.size : Int) + (n1 : Int) + (n2 : Int) := by rw [IntWalk.i64_in _ (by omega)]; omega
            go_wp2_with fail
            go_quiet (fail)
            go_wp2_with fail
            go_roundg 0
            case measure => omega
            case rel => exact ⟨by first | exact ⟨_, rfl⟩ | exact ⟨_, World.drewN_drewN _ _ _⟩, .inr (.inr ⟨rfl, by first | rfl | go_num, by first | rfl | go_num, by first | rfl | (simp; omega)⟩)⟩
        · go_wp2_with fail
          go_meet
          refine ⟨⟨World.heap_drewN _ _⟩, ⟨⟨rfl, rfl, rfl, Nat.le_refl _, fun _ _ => rfl⟩⟩, s.size + n1 + n2, rfl, ?_, ⟨by rw [HN12.out]; omega⟩⟩
          have e : decide (0 < n1 + n2) = decide (s.size < s.size + n1 + n2) := decide_eq_decide.2 (by omega)
          rw [e]
    · have h16b : decide (16 ≤ s.size) = false := decide_eq_false h16
      have h16c : decide ((16 : Int) ≤ (s.size : Int)) = false := decide_eq_false (by omega)
      clear h16
      rw [h16c]
      go_wp2_with fail
      go_loopg [5, 6, 10] s.size (fun kq v5 v6 v10 wr => ∃ k m : Nat, wr = w ∧ v10 = .int .i64 (k : Int) ∧ v5 = .int .i64 (m : Int) ∧ v6 = .bool (decide (s.size < m)) ∧ Asd (kq + k = s.size) ∧ Asd (m = s.size + nSp (s.data.toList.take k)))
      case atStart => exact ⟨0, s.size, rfl, rfl, rfl, by simp, ⟨by omega⟩, ⟨by simp [nSp]⟩⟩
      case round =>
        obtain ⟨k, m, hwr, rfl, rfl, rfl, HK, HM⟩ := hrel
        obtain rfl := hwr.symm
        cases gk with
        | zero =>
          obtain rfl : k = s.size := by have := HK.out; omega
          have hlt2 : decide (s.size < s.size) = false := by simp
          have HM2 : Asd (m = s.size + nSp s.data.toList) := ⟨by
            have h := HM.out
            rw [List.take_of_length_le (by rw [Array.length_toList]; exact Nat.le_refl _)] at h
            exact h⟩
          go_wp2_with fail
          go_meet
          exact ⟨⟨rfl⟩, ⟨Below.refl _ _⟩, m, rfl, rfl, HM2⟩
        | succ k1 =>
          have hlt : k < s.size := by have := HK.out; omega
          have hlt2 : decide (k < s.size) = true := decide_eq_true hlt
          obtain ⟨b, hb⟩ : ∃ b, s.data.toList[k]? = some b := ⟨_, List.getElem?_eq_getElem (by rw [Array.length_toList]; exact hlt)⟩
          have hbk : ∀ h, (s[k]'h).toNat = b.toNat := fun h => by
            have h2 : s.data.toList[k]? = some (s.data.toList[k]'(by rw [Array.length_toList]; exact hlt)) := List.getElem?_eq_getElem _
            rw [hb] at h2
            injection h2 with h2
            rw [h2]
            rfl
          have hm : m ≤ 300000 := by
            have h1 := HM.out
            have h2 : nSp (s.data.toList.take k) ≤ (s.data.toList.take k).length := List.countP_le_length
            rw [List.length_take] at h2
            omega
          have hmb : s.size ≤ m := by have := HM.out; omega
          have HT := Asd.mk (nSp_take hb)
          have hb256 : b.toNat < 256 := UInt8.toNat_lt b
          rcases HBA.out.at b with ⟨hsp, hc⟩ | ⟨hsp, h, c, hc, -, -⟩
          · have HSP := Asd.mk hsp
            clear hb hsp
            generalize b.toNat = bn at *
            go_wp2_with fail
            go_roundg k1
            case measure => omega
            case rel => exact ⟨k + 1, m, rfl, by go_num, rfl, rfl, ⟨by have := HK.out; omega⟩, ⟨by rw [HT.out, HSP.out]; have := HM.out; simpa using this⟩⟩
          · have HSP := Asd.mk hsp
            clear hb hsp
            generalize b.toNat = bn at *
            go_wp2_with fail
            go_roundg k1
            case measure => omega
            case rel => exact ⟨k + 1, m + 1, rfl, by go_num, by go_num, by simp; omega, ⟨by have := HK.out; omega⟩, ⟨by rw [HT.out, HSP.out]; have := HM.out; simp; omega⟩⟩
  case rest =>
    obtain ⟨HH, HW, m, rfl, rfl, HM⟩ := hcut
    have HBA2 : Asd (BRep wc sb) := ⟨HBA.out.of_heap HH.out⟩
    have FIN : Asd (∀ w', Below wc.heap.size wc w' → Below w.heap.size w w') := ⟨fun w' h => HW.out.trans (h.mono (by rw [HH.out]; exact Nat.le_refl _))⟩
    clear t0 t1 t2 HBA
    obtain ⟨tb2, t0, t1, t2⟩ := HBA2.out.t
    have hall : s.data.toList.take s.size = s.data.toList := List.take_of_length_le (by rw [Array.length_toList]; exact Nat.le_refl _)
    by_cases hz : nSp s.data.toList = 0
    · have hm2 : decide (s.size < m) = false := by
        have := HM.out
        rw [hz] at this
        simp
        omega
      rw [hm2]
      have HE := Asd.mk (escL_id hz)
      clear hall hz hm2
      go_wp2_with fail
      go_ret
      have e : (⟨(escL s.data.toList).toArray⟩ : ByteArray) = s := by rw [HE.out, Array.toArray_toList]
      exact ⟨congrArg (fun x => Ending.returned (Value.string x)) e.symm, HW.out⟩
    · have hm2 : decide (s.size < m) = true := by
        have := HM.out
        simp
        omega
      rw [hm2]
      have hml : m ≤ 300000 := by
        have h1 := HM.out
        have h2 : nSp s.data.toList ≤ s.data.toList.length := List.countP_le_length
        rw [Array.length_toList] at h2
        have h3 : s.data.size = s.size := rfl
        omega
      obtain ⟨i0, hi, hz0, hz1, hz2⟩ := info_parts info5
      have hrun : (Instr.makeSlice 40 (.int .i64 (m : Int)) (.int .i64 (m : Int))).run Tryz.prog wc = .ok (.slice (some ⟨wc.heap.size, 0, none⟩) m m) (wc.alloc (.cells (bufOf [] m).toArray 5)) := by
        have h := run_make (P := Tryz.prog) wc 40 5 i0 (.int .u8 0) Tryz.underlying40 hi hz0 .i64 .i64 (m : Int) (m : Int) (by omega) (by omega) (by rw [hz2]; omega) (by omega)
        rw [hz1] at h
        simp only [Int.toNat_natCast] at h
        rw [made_zero] at h
        exact h
      have HG0 := Asd.mk (heap_alloc_new wc (.cells (bufOf [] m).toArray 5))
      have HG1 := Asd.mk ((Below.refl _ wc).alloc (Nat.le_refl _) (.cells (bufOf [] m).toArray 5))
      generalize (wc.alloc (.cells (bufOf [] m).toArray 5)) = w1 at *
      clear hz hm2
      go_wp2_with fail
      go_loopg [13, 14] s.size (fun kq v13 v14 wr => ∃ k j : Nat, v14 = .int .i64 (k : Int) ∧ v13 = .int .i64 (j : Int) ∧ Asd (kq + k = s.size) ∧ Asd (j = (escL (s.data.toList.take k)).length) ∧
        Asd (wr.heap[wc.heap.size]? = some (.cells (bufOf (escL (s.data.toList.take k)) m).toArray 5 (0, 0))) ∧ Asd (Below wc.heap.size wc wr))
      case atStart => exact ⟨0, 0, rfl, rfl, ⟨by omega⟩, ⟨by simp [escL]⟩, ⟨by simpa [escL] using HG0.out⟩, HG1⟩
      case round =>
        obtain ⟨k, j, rfl, rfl, HK2, HJ, HBF, HBE⟩ := hrel
        cases gk with
        | zero =>
          obtain rfl : k = s.size := by have := HK2.out; omega
          have hlt3 : decide (s.size < s.size) = false := by simp
          have hml2 : (escL s.data.toList).length = m := by
            have h1 := HM.out
            have h3 : s.data.size = s.size := rfl
            rw [escL_length, Array.length_toList]
            omega
          have hbf := HBF.out
          rw [hall, ← hml2, bufOf_full] at hbf
          have hcv := conv_buf hbf (escL s.data.toList).length
          rw [hml2] at hcv
          have HBE2 := HBE
          clear hbf hml2
          go_wp2_with fail
          go_ret
          exact ⟨rfl, FIN.out _ HBE2.out⟩
        | succ k1 =>
          have hlt : k < s.size := by have := HK2.out; omega
          have hlt3 : decide (k < s.size) = true := decide_eq_true hlt
          obtain ⟨b, hb⟩ : ∃ b, s.data.toList[k]? = some b := ⟨_, List.getElem?_eq_getElem (by rw [Array.length_toList]; exact hlt)⟩
          have hbk : ∀ h, (s[k]'h).toNat = b.toNat := fun h => by
            have h2 : s.data.toList[k]? = some (s.data.toList[k]'(by rw [Array.length_toList]; exact hlt)) := List.getElem?_eq_getElem _
            rw [hb] at h2
            injection h2 with h2
            rw [h2]
            rfl
          have HET := Asd.mk (escL_take hb)
          have hjm : (escL (s.data.toList.take (k + 1))).length ≤ m := by
            have h1 := HM.out
            have h2 : (escL s.data.toList).length = m := by
              have h3 : s.data.size = s.size := rfl
              rw [escL_length, Array.length_toList]
              omega
            have h3 : escL s.data.toList = escL (s.data.toList.take (k + 1)) ++ escL (s.data.toList.drop (k + 1)) := by
              unfold escL
              rw [← List.flatMap_append, List.take_append_drop]
            rw [← h2, h3, List.length_append]
            omega
          have hb256 : b.toNat < 256 := UInt8.toNat_lt b
          rcases HBA2.out.at b with ⟨hsp, hc⟩ | ⟨hsp, h, c, hc, hc0, hc1⟩
          · have he1 : esc1 b = [b] := by unfold esc1; rw [hsp]; rfl
            rw [HET.out, he1, List.length_append] at hjm
            have hj := HJ.out
            have hjm2 : j < m := by simp at hjm; omega
            have hcw := (HBE.out.cell (p := ⟨sb, b.toNat, none⟩) (World.block_lt_of_cell? _ _ hc)).trans hc
            have hcj : wr.cell? ⟨wc.heap.size, j, none⟩ = some (.int .u8 0) := by
              rw [cell_of_row _ _ j _ _ _ HBF.out, List.getElem?_toArray]
              unfold bufOf
              rw [List.getElem?_append_right (by rw [bcells_length]; omega), List.getElem?_replicate, if_pos (by rw [bcells_length]; omega)]
            have hfj : ∀ i, wr.frozen? ⟨wc.heap.size, i, none⟩ = false := fun i => by unfold World.frozen?; rw [HBF.out]; simp
            have hjmb : decide (j < m) = true := decide_eq_true hjm2
            have HN : Asd ((wr.setCell ⟨wc.heap.size, j, none⟩ (.int .u8 (b.toNat : Int))).heap[wc.heap.size]? = some (.cells (bufOf (escL (s.data.toList.take (k + 1))) m).toArray 5 (0, 0))) := ⟨by
              rw [heap_setCell_same wr wc.heap.size j _ 5 _ HBF.out, HET.out, he1, ← bufOf_snoc (by omega), hj]
              simp⟩
            have HNB := Asd.mk (HBE.out.setCell (p := ⟨wc.heap.size, j, none⟩) (Nat.le_refl _) (.int .u8 (b.toNat : Int)))
            have HNJ : Asd (j + 1 = (escL (s.data.toList.take (k + 1))).length) := ⟨by rw [HET.out, he1, List.length_append, ← hj]; rfl⟩
            clear hb hsp hj hjm he1 hc
            generalize b.toNat = bn at *
            go_wp2_with fail
            go_roundg k1
            case measure => omega
            case rel => exact ⟨k + 1, j + 1, by go_num, by go_num, ⟨by have := HK2.out; omega⟩, HNJ, HN, HNB⟩
          · have he1 : esc1 b = [92, b] := by unfold esc1; rw [hsp]; rfl
            rw [HET.out, he1, List.length_append] at hjm
            have hj := HJ.out
            have hjm2 : j + 2 ≤ m := by simp at hjm; omega
            have hcw := (HBE.out.cell (p := ⟨sb, b.toNat, none⟩) (World.block_lt_of_cell? _ _ hc)).trans hc
            have hcw0 := (HBE.out.cell (p := ⟨h, 0, none⟩) (World.block_lt_of_cell? _ _ hc0)).trans hc0
            have hcw1 := (HBE.out.cell (p := ⟨h, 1, none⟩) (World.block_lt_of_cell? _ _ hc1)).trans hc1
            have HNJ : Asd (j + 2 = (escL (s.data.toList.take (k + 1))).length) := ⟨by rw [HET.out, he1, List.length_append, ← hj]; rfl⟩
            have hsz5 : (Tryz.prog.info? 5).map (·.size) = some 1 := by kernel_rfl
            have hbl := bufOf_length (l := escL (s.data.toList.take k)) (m := m) (by omega)
            have hsrc : ∀ (i : Nat) (v : Value), [Value.int .u8 92, .int .u8 (b.toNat : Int)][i]? = some v → wr.cell? ((⟨h, 0, none⟩ : Addr).add i) = some v := by
              intro i v hv
              have hadd : (⟨h, 0, none⟩ : Addr).add i = ⟨h, i, none⟩ := by rw [Addr.add_mid]; simp
              rw [hadd]
              match i, hv with
              | 0, hv => simp at hv; rw [← hv]; exact hcw0
              | 1, hv => simp at hv; rw [← hv]; exact hcw1
            have HSRC : Asd (∀ (i : Nat) (v : Value), [Value.int .u8 92, .int .u8 (b.toNat : Int)][i]? = some v → wr.drew.cell? ((⟨h, 0, none⟩ : Addr).add i) = some v) := ⟨hsrc⟩
            have HJ2 := Asd.mk hj
            have HC := Asd.mk hc
            have HBF2 : Asd (wr.drew.heap[wc.heap.size]? = some (.cells (bufOf (escL (s.data.toList.take k)) m).toArray 5 (0, 0))) := ⟨HBF.out⟩
            have HBE2 : Asd (Below wc.heap.size wc wr.drew) := ⟨HBE.out.drew⟩
            have hmj : j ≤ m := by omega
            have HMIN : Asd ([Value.int .u8 92, .int .u8 (b.toNat : Int)].length = Nat.min 2 (m - j)) := ⟨by
              have : Nat.min 2 (m - j) = 2 := Nat.min_eq_left (by omega)
              rw [this]; rfl⟩
            have HFIT : Asd (j + [Value.int .u8 92, .int .u8 (b.toNat : Int)].length ≤ (bufOf (escL (s.data.toList.take k)) m).length) := ⟨by rw [hbl]; exact hjm2⟩
            have HBI : (b.toNat : Int) < 256 := by omega
            obtain ⟨w4, hcp, HN, HNB, S2⟩ : ∃ w4, (Builtin.copy_ #[40, 40] 3 #[.slice (some ⟨wc.heap.size, j, none⟩) (m - j) (m - j), .slice (some ⟨h, 0, none⟩) 2 c]).run Tryz.prog wr.drew = .ok (.int .i64 2) w4 ∧
                Asd (w4.heap[wc.heap.size]? = some (.cells (bufOf (escL (s.data.toList.take (k + 1))) m).toArray 5 (0, 0))) ∧ Asd (Below wc.heap.size wc w4) ∧ w4.cell? ⟨sb, b.toNat, none⟩ = some (.slice (some ⟨h, 0, none⟩) 2 c) := by
              have hr := run_copy_row (P := Tryz.prog) wr.drew 40 40 3 5 wc.heap.size j (m - j) (m - j) ⟨h, 0, none⟩ 2 c _ 5 [Value.int .u8 92, .int .u8 (b.toNat : Int)] Tryz.underlying40 hsz5 HBF2.out HMIN.out HSRC.out HFIT.out (by simp [Value.oneCell'])
              have hnb : Below wc.heap.size wc (wr.drew.setRow wc.heap.size ((bufOf (escL (s.data.toList.take k)) m).take j ++ [Value.int .u8 92, .int .u8 (b.toNat : Int)] ++ (bufOf (escL (s.data.toList.take k)) m).drop (j + 2)).toArray) := below_setRow HBE2.out (Nat.le_refl _) _
              refine ⟨_, hr, ⟨?_⟩, ⟨hnb⟩, (hnb.cell (p := ⟨sb, b.toNat, none⟩) (World.block_lt_of_cell? _ _ HC.out)).trans HC.out⟩
              rw [HET.out, he1, ← bufOf_two _ _ _ (by rw [← HJ2.out]; omega), ← HJ2.out]
              exact setRow_heap wr.drew wc.heap.size _ _ 5 _ HBF2.out
            clear hb hsp hjm hc hc0 hc1 hsrc hj hbl hcw0 hcw1 he1
            generalize hbn : b.toNat = bn at *
            have HBN := Asd.mk hbn
            clear hbn
            have hbn0 : (0 : Int) ≤ (bn : Int) := by omega
            go_wp2_with fail
            go_region_held3 (fun wc' => wc'.cell? ⟨sb, bn, none⟩ = some (.slice (some ⟨h, 0, none⟩) 2 c)) (first | exact hcw | exact S2 | fail) (fail)
            go_wp2_with fail
            go_roundg k1
            case measure => omega
            case rel => exact ⟨k + 1, j + 2, by go_num, by (try rw [IntWalk.i64_in _ (by omega)]); go_num, ⟨by have := HK2.out; omega⟩, HNJ, HN, HNB⟩
end Go.Proofs.YtacimedkchjfnaaGreat
end

section
/-! strings.Builder at this program: copyCheck, WriteByte, WriteString, String, Reset. -/
namespace Go.Proofs.YtacimedkchjfnaaGreat
open Go.Shelf Go.RowKit
set_option linter.unusedSimpArgs false
set_option linter.unusedVariables false

def lays169_ren : Go.Shelf.Ren := ⟨fun | 169 => 22 | n => n, fun | 70 => 39 | 9 => 9 | 0 => 0 | 72 => 42 | 37 => 40 | 127 => 78 | 3 => 3 | 5 => 5 | n => n, fun | n => n⟩
theorem lays169 : Go.Proofs.Lays.n169 Tryz.prog lays169_ren := {
  mixed := by kernel_rfl
  f169 := Tryz.func22.trans (congrArg some (by kernel_rfl))
  t0 := Tryz.underlying0
  a0 := Tryz.isAgg0
  z0 := Tryz.sizeOf0
  v0 := Tryz.zeroValue0
  t3 := Tryz.underlying3
  a3 := Tryz.isAgg3
  z3 := Tryz.sizeOf3
  v3 := Tryz.zeroValue3
  t9 := Tryz.underlying9
  a9 := Tryz.isAgg9
  z9 := Tryz.sizeOf9
  v9 := Tryz.zeroValue9
  t37 := Tryz.underlying40
  a37 := Tryz.isAgg40
  z37 := Tryz.sizeOf40
  v37 := Tryz.zeroValue40
  t70 := Tryz.underlying39
  a70 := Tryz.isAgg39
  z70 := Tryz.sizeOf39
  v70 := Tryz.zeroValue39
  t72 := Tryz.underlying42
  a72 := Tryz.isAgg42
  z72 := Tryz.sizeOf42
  v72 := Tryz.zeroValue42
  t127 := Tryz.underlying78
  a127 := Tryz.isAgg78
  z127 := Tryz.sizeOf78
  v127 := Tryz.zeroValue78 }
theorem bExtra : Builder.Extra Tryz.prog lays169_ren := {
  sizeBuilder := by kernel_rfl
  liesBuilder := by kernel_rfl
  t5 := Tryz.underlying5
  a5 := Tryz.isAgg5
  z5 := Tryz.sizeOf5
  v5 := Tryz.zeroValue5
  infoByte := by kernel_rfl
  cellsByte := by kernel_rfl
  sizeByte := by kernel_rfl
  neB5 := by decide }

theorem bstring_calls (B b : Nat) (l : List UInt8) (w : World) (h : Lib.IsBuilderF 42 5 B b (Lib.byteCells l) w) (hBw : B ≤ w.heap.size) :
    Calls Tryz.prog 22 #[.pointer (some ⟨b, 0, none⟩)] w fun e w' => e = .returned (.string ⟨l.toArray⟩) ∧ (Lib.IsBuilderF 42 5 B b (Lib.byteCells l) w' ∧ Below B w w' ∧ Lib.OthersKept 5 (some b) w w') := Any.Builder_String_any_k lays169 bExtra B b l w h hBw
theorem sz40 : (Tryz.prog.info? 42).map (·.size) = some 2 := by kernel_rfl
set_option maxRecDepth 100000 in
theorem check_used (b : Nat) (w : World) (h0 : w.cell? ⟨b, 0, none⟩ = some (.pointer (some ⟨b, 0, none⟩))) :
    Calls Tryz.prog 28 #[.pointer (some ⟨b, 0, none⟩)] w fun e w' => e = .returned (.tuple #[]) ∧ w' = w := by
  obtain ⟨j, hj, _⟩ := Option.map_eq_some_iff.1 sz40
  go_enter Tryz.func28, Tryz.ntmps28
  go_wp2
  rw [Lib.run_neq_ptr_same w _ Tryz.underlying39 hj]
  go_wp2
  go_end0
  exact ⟨rfl, rfl⟩
set_option maxRecDepth 100000 in
theorem check_fresh (b : Nat) (w : World) (h0 : w.cell? ⟨b, 0, none⟩ = some (.pointer none)) (hsh : w.shape? b = some (42, 2)) (hfz : w.frozen? ⟨b, 0, none⟩ = false) :
    Calls Tryz.prog 28 #[.pointer (some ⟨b, 0, none⟩)] w fun e w' => e = .returned (.tuple #[]) ∧ w' = w.setCell ⟨b, 0, none⟩ (.pointer (some ⟨b, 0, none⟩)) := by
  obtain ⟨j, hj, hjs⟩ := Option.map_eq_some_iff.1 sz40
  go_enter Tryz.func28, Tryz.ntmps28
  go_wp2
  rw [Lib.run_to_unsafe w ⟨b, 0, none⟩ Tryz.underlying39 Tryz.underlying81 hj (by rw [hjs]; decide) hsh (Nat.zero_lt_succ 1)]
  simp only [Result.andThen]
  rw [Oper.upon_value]
  go_wp2
  rw [run_callFunc_extern Tryz.func49 (by kernel_rfl) (by kernel_rfl) (by kernel_rfl) (e := Extern.AbiNoEscape.same) (by kernel_rfl)]
  rw [Lib.run_noEscape]
  simp only [Result.andThen]
  rw [Oper.upon_value]
  go_wp2
  rw [Lib.run_from_unsafe w ⟨b, 0, none⟩ Tryz.underlying81 Tryz.underlying39 hj hsh bExtra.liesBuilder]
  simp only [Result.andThen]
  rw [Oper.upon_value]
  go_wp2
  go_end0
  exact ⟨rfl, rfl⟩
theorem check_calls (B b : Nat) (bs : List Value) (w : World) (h : Lib.IsBuilderF 42 5 B b bs w) :
    Calls Tryz.prog 28 #[.pointer (some ⟨b, 0, none⟩)] w fun e w' => e = .returned (.tuple #[]) ∧ (Lib.BuilderAtF 42 5 B b (.pointer (some ⟨b, 0, none⟩)) bs w' ∧ Below B w w' ∧ Lib.OthersKept 5 (some b) w w') := by
  rcases h with h | h
  · refine (check_fresh b w h.cell0 h.shape h.frozen0).mono ?_
    rintro e w' ⟨rfl, rfl⟩
    exact ⟨rfl, h.used _, (Below.refl B w).setCell (p := ⟨b, 0, none⟩) h.1 _, (Lib.OthersKept.refl _ _ w).setCell ⟨b, 0, none⟩ rfl _⟩
  · refine (check_used b w h.cell0).mono ?_
    rintro e w' ⟨rfl, rfl⟩
    exact ⟨rfl, h, Below.refl B _, Lib.OthersKept.refl _ _ _⟩
theorem info5' : (Tryz.prog.info? 5).map (fun i => (i.zero, i.size, i.bytes)) = some (some (.int .u8 0), 1, 1) := by kernel_rfl
set_option maxHeartbeats 2000000 in
set_option maxRecDepth 100000 in
theorem writeString_calls (B b : Nat) (bs : List Value) (s : ByteArray) (w : World) (h : Lib.IsBuilderF 42 5 B b bs w) (hlen : bs.length + s.size ≤ 140737488355328) (hBw : B ≤ w.heap.size) :
    Calls Tryz.prog 19 #[.pointer (some ⟨b, 0, none⟩), .string s] w fun e w' => e = .returned (.tuple #[.int .i64 s.size, .nilIface]) ∧ (Lib.BuilderAtF 42 5 B b (.pointer (some ⟨b, 0, none⟩)) (bs ++ Lib.strCells s) w' ∧ Below B w w' ∧ Lib.OthersKept 5 (some b) w w') := by
  obtain ⟨i0, hi, hz0, hz1, hz2⟩ := info_parts info5'
  go_enter Tryz.func19, Tryz.ntmps19
  go_wp2_with (go_at_call 28; refine (check_calls B b bs _ h).mono ?_)
  rintro e w1 ⟨rfl, h1, hb1, hk1⟩
  obtain ⟨hB, v, hbk, hown, hne⟩ := h1
  have c0 : w1.cell? ⟨b, 0, none⟩ = some (.pointer (some ⟨b, 0, none⟩)) := by rw [Lib.cell_of_heap hbk]; rfl
  have c1 : w1.cell? ⟨b, 1, none⟩ = some v := by rw [Lib.cell_of_heap hbk]; rfl
  go_wp2_with (at_builtin; refine Lib.wpList_append_own_stringF _ rfl _ _ 40 9 rfl B 5 i0 Tryz.underlying40 Tryz.underlying9 hi hz0 hz1 hz2 _ _ _ rfl hown s rfl ?c3 ?c4 ?c5 ?_)
  case c3 => unfold maxLen; omega
  case c4 => omega
  case c5 => have := hb1.size; omega
  intro v' w2 hown' hgrow _
  have hlt : b < w1.heap.size := by
    rcases Nat.lt_or_ge b w1.heap.size with h' | h'
    · exact h'
    · simp [Array.getElem?_eq_none h'] at hbk
  have hb2 : w2.heap[b]? = some (.cells #[.pointer (some ⟨b, 0, none⟩), v] 42 (0, 0)) := by
    rw [hgrow.block b hlt (fun e => hne e.symm)]
    exact hbk
  have d0 : w2.cell? ⟨b, 0, none⟩ = some (.pointer (some ⟨b, 0, none⟩)) := by rw [Lib.cell_of_heap hb2]; rfl
  have d1 : w2.cell? ⟨b, 1, none⟩ = some v := by rw [Lib.cell_of_heap hb2]; rfl
  have f1 : w2.frozen? ⟨b, 1, none⟩ = false := Lib.frozen_of_heap hb2 1
  obtain ⟨ao, n', cap, rfl⟩ : ∃ ao n' cap, v' = .slice ao n' cap := by
    rcases hown'.2 with ⟨hv, _⟩ | ⟨g, cap, cur, fz, hv, _⟩
    · exact ⟨_, _, _, hv⟩
    · exact ⟨_, _, _, hv⟩
  go_wp2
  go_ret2
  refine ⟨rfl, ?_, ?_, (hk1.grown hgrow (Lib.ownsRowF_kind hown)).setCell ⟨b, 1, none⟩ rfl _⟩
  · exact Lib.BuilderAtF.put (T := 42) (e := 5) hB hb2 (bs' := bs ++ Lib.strCells s) (by simpa [Lib.strCells_length] using hown') (by decide)
  · exact (hb1.grown hgrow (by have := hb1.size; omega) (fun k hk => (hown.lt k hk).1)).setCell (p := ⟨b, 1, none⟩) hB _
/-- A fresh builder, just made or reset. -/
theorem builder_new (B b : Nat) (w : World) (hB : B ≤ b) (hb : w.heap[b]? = some (.cells #[.pointer none, .slice none 0 0] 42 (0, 0))) : Lib.IsBuilderF 42 5 B b [] w :=
  .inl ⟨hB, _, hb, World.ownsRowF_of (World.ownsRow_nil _ _ _ _), by simp [Value.ownBlock]⟩
end Go.Proofs.YtacimedkchjfnaaGreat
end

section
/-! The replacer: Replace through the interface; a key's part. -/
namespace Go.Proofs.YtacimedkchjfnaaGreat
open Go.RowKit
set_option linter.unusedSimpArgs false
set_option linter.unusedVariables false

theorem method_rep (a : Addr) (w : World) : (method 251 117 (.pointer (some a)) "Replace").run Tryz.prog w = .ok (112, .pointer (some a)) w := by kernel_rfl
set_option maxRecDepth 100000 in
theorem replace_calls (w : World) (lo rb g c : Nat) (x2 x3 : Value) (s : ByteArray) (hlo : lo ≤ rb) (hgr : g ≠ rb) (hs : s.size ≤ 100000)
    (hr : w.heap[rb]? = some (.cells #[.int .u32 0, .int .i32 0, x2, x3, .slice (some ⟨g, 0, none⟩) 4 c] 76 (0, 0)))
    (h0 : w.cell? ⟨g, 0, none⟩ = some (.string b1)) (h1 : w.cell? ⟨g, 1, none⟩ = some (.string b2)) (h2 : w.cell? ⟨g, 2, none⟩ = some (.string b3)) (h3 : w.cell? ⟨g, 3, none⟩ = some (.string b4)) :
    Calls Tryz.prog 21 #[.pointer (some ⟨rb, 0, none⟩), .string s] w fun e w' => e = .returned (.string ⟨(escL s.data.toList).toArray⟩) ∧ Below lo w w' := by
  have HD := Asd.mk (do_calls w lo rb g c x2 x3 hlo hgr hr h0 h1 h2 h3)
  have hlw : lo ≤ w.heap.size := Nat.le_trans hlo (Nat.le_of_lt (Array.getElem?_eq_some_iff.1 hr).1)
  clear hr h0 h1 h2 h3
  have hm := method_rep
  go_enter Tryz.func21, Tryz.ntmps21
  go_wp2_with fail
  refine HD.out.mono ?_
  rintro e w1 ⟨rfl, sb, HB, hc, hb⟩
  have HBS := Asd.mk (rep_calls w1 sb s HB hs)
  have HBB := Asd.mk hb
  clear HB hb HD
  go_wp2_with fail
  refine HBS.out.mono ?_
  rintro e w2 ⟨rfl, hb2⟩
  have HB2 := Asd.mk hb2
  clear hb2
  go_wp2_with fail
  go_ret
  exact ⟨rfl, HBB.out.trans (HB2.out.mono (Nat.le_trans hlw HBB.out.size))⟩
end Go.Proofs.YtacimedkchjfnaaGreat
end

section
/-! Texts in a slice; Key. -/
namespace Go.Proofs.YtacimedkchjfnaaGreat
open Go.RowKit
set_option linter.unusedSimpArgs false
set_option linter.unusedVariables false

/-- A slice that reads as texts. -/
def StrAt (w : World) (v : Value) (l : List ByteArray) : Prop :=
  ∃ A c, v = .slice A l.length c ∧ l.length ≤ 9223372036854775807 ∧ (0 < l.length → ∃ g off, A = some ⟨g, off, none⟩ ∧ g < w.heap.size ∧ ∀ (j : Nat) (s : ByteArray), l[j]? = some s → w.cell? ⟨g, off + j, none⟩ = some (.string s))
theorem StrAt.below {B : Nat} {w w' : World} {v : Value} {l : List ByteArray} (h : StrAt w v l) (hb : Below B w w') (hB : w.heap.size ≤ B) : StrAt w' v l := by
  obtain ⟨A, c, h1, h2, h3⟩ := h
  refine ⟨A, c, h1, h2, fun hl => ?_⟩
  obtain ⟨g, off, h4, h5, h6⟩ := h3 hl
  exact ⟨g, off, h4, Nat.lt_of_lt_of_le h5 hb.size, fun j s hj => (hb.cell (p := ⟨g, off + j, none⟩) (Nat.lt_of_lt_of_le h5 hB)).trans (h6 j s hj)⟩
theorem StrAt.own {w : World} {base : Nat} {v : Value} {n : Nat} {l : List ByteArray} (h : w.ownsRow base 9 1 v n (l.map Value.string)) : StrAt w v l := by
  have hn : l.length = n := by have := h.1; simpa using this
  subst hn
  rcases h.2 with ⟨h1, h2⟩ | ⟨g, cap, cur, h1, h2, h3, h4, h5, _⟩
  · exact ⟨none, 0, by rw [h2]; exact h1, by omega, fun hl => by omega⟩
  · subst h1
    refine ⟨_, cap, rfl, by simp only [maxLen] at h5; omega, fun hl => ⟨g, 0, rfl, (Array.getElem?_eq_some_iff.1 h3).1, fun j s hj => ?_⟩⟩
    have hjl := (List.getElem?_eq_some_iff.1 hj).1
    rw [Nat.zero_add, h.cellAt j (by omega), List.getElem?_map, hj]
    rfl

theorem builder_below {B b : Nat} {bs : List Value} {w w' : World} (h : Lib.IsBuilderF 42 5 B b bs w) (hb : Below w.heap.size w w') : Lib.IsBuilderF 42 5 B b bs w' := by
  have hat : ∀ p, Lib.BuilderAtF 42 5 B b p bs w → Lib.BuilderAtF 42 5 B b p bs w' := by
    rintro p ⟨hB, v, hbk, hown, hne⟩
    have hl := (Array.getElem?_eq_some_iff.1 hbk).1
    refine ⟨hB, v, (hb.block b hl).trans hbk, hown.kept (row := none) ⟨hb.os, hb.tape, hb.output, hb.size, fun k hk _ => hb.block k hk⟩ ?_, hne⟩
    cases v.ownBlock with
    | none => exact .inl rfl
    | some g => exact .inr (by simp)
  exact h.elim (fun h => .inl (hat _ h)) (fun h => .inr (hat _ h))

/-- A part of a key. -/
def part1 (p : ByteArray) : List UInt8 := escL p.data.toList ++ [58]
def keyL (l : List ByteArray) : List UInt8 := l.flatMap part1
theorem keyL_take {l : List ByteArray} {k : Nat} {p : ByteArray} (h : l[k]? = some p) : keyL (l.take (k + 1)) = keyL (l.take k) ++ part1 p := by
  unfold keyL
  rw [List.take_add_one, h, List.flatMap_append]
  simp
theorem escL_length_le (l : List UInt8) : (escL l).length ≤ 2 * l.length := by
  have h : nSp l ≤ l.length := List.countP_le_length
  rw [escL_length]
  omega
theorem keyL_length_le (l : List ByteArray) (n : Nat) (h : ∀ s ∈ l, s.size ≤ n) : (keyL l).length ≤ l.length * (2 * n + 1) := by
  induction l with
  | nil => simp [keyL]
  | cons a l ih =>
    have h1 := h a (by simp)
    have h2 := ih fun s hs => h s (by simp [hs])
    have h3 : (part1 a).length ≤ 2 * n + 1 := by
      unfold part1
      have h4 := escL_length_le a.data.toList
      have h5 : a.data.toList.length = a.size := Array.length_toList
      rw [List.length_append]
      simp only [List.length_singleton]
      omega
    have h4 : (keyL (a :: l)).length = (part1 a).length + (keyL l).length := by
      unfold keyL
      rw [List.flatMap_cons, List.length_append]
    rw [h4, List.length_cons, Nat.add_mul]
    omega
theorem str_add (l : List UInt8) : (⟨l.toArray⟩ : ByteArray) ++ ⟨#[58]⟩ = ⟨(l ++ [58]).toArray⟩ := by
  apply ByteArray.ext
  simp [ByteArray.data_append]
end Go.Proofs.YtacimedkchjfnaaGreat
end

section
/-! Key. -/
namespace Go.Proofs.YtacimedkchjfnaaGreat
open Go.RowKit
set_option linter.unusedSimpArgs false
set_option linter.unusedVariables false

/-- What is in the round's world behind the four texts. -/
theorem four_cells (w : World) : (w.alloc (.cells #[.string b1, .string b2, .string b3, .string b4] 9)).cell? ⟨w.heap.size, 0, none⟩ = some (.string b1) ∧ (w.alloc (.cells #[.string b1, .string b2, .string b3, .string b4] 9)).cell? ⟨w.heap.size, 1, none⟩ = some (.string b2) ∧
    (w.alloc (.cells #[.string b1, .string b2, .string b3, .string b4] 9)).cell? ⟨w.heap.size, 2, none⟩ = some (.string b3) ∧ (w.alloc (.cells #[.string b1, .string b2, .string b3, .string b4] 9)).cell? ⟨w.heap.size, 3, none⟩ = some (.string b4) :=
  ⟨cell_of_row _ _ 0 _ _ _ (heap_alloc_new _ _), cell_of_row _ _ 1 _ _ _ (heap_alloc_new _ _), cell_of_row _ _ 2 _ _ _ (heap_alloc_new _ _), cell_of_row _ _ 3 _ _ _ (heap_alloc_new _ _)⟩
set_option maxRecDepth 20000 in
set_option maxHeartbeats 4000000 in
theorem key_calls (w : World) (v : Value) (l : List ByteArray) (H : StrAt w v l) (hs : ∀ s ∈ l, s.size ≤ 2000) (hl : l.length ≤ 2000) :
    Calls Tryz.prog 14 #[v] w fun e w' => e = .returned (.string ⟨(keyL l).toArray⟩) ∧ Below w.heap.size w w' := by
  obtain ⟨A, c, rfl, -, hc⟩ := H
  have HC := Asd.mk hc
  have HS := Asd.mk hs
  clear hc hs
  have HB0 : Asd (Lib.IsBuilderF 42 5 w.heap.size w.heap.size (Lib.byteCells (keyL [])) (w.alloc (.cells #[.pointer none, .slice none 0 0] 42))) := ⟨builder_new _ _ _ (Nat.le_refl _) (heap_alloc_new _ _)⟩
  have HW0 := Asd.mk ((Below.refl _ w).alloc (Nat.le_refl _) (.cells #[.pointer none, .slice none 0 0] 42))
  have hl0 : (0 : Int) ≤ l.length := by omega
  go_enter Tryz.func14, Tryz.ntmps14
  go_wp2_with fail
  generalize (w.alloc (.cells #[.pointer none, .slice none 0 0] 42)) = w1 at *
  go_loopg [8] l.length (fun kq v8 wr => ∃ k : Nat, v8 = .int .i64 (k : Int) ∧ Asd (kq + k = l.length) ∧ Asd (Lib.IsBuilderF 42 5 w.heap.size w.heap.size (Lib.byteCells (keyL (l.take k))) wr) ∧ Asd (Below w.heap.size w wr))
  case atStart => exact ⟨0, rfl, ⟨by omega⟩, HB0, HW0⟩
  case round =>
    obtain ⟨k, rfl, HK, HB, HW⟩ := hrel
    have hk := HK.out
    clear HB0 HW0
    cases gk with
    | zero =>
      have hge2 : (decide (k < l.length)) = false := by rw [decide_eq_false_iff_not]; omega
      obtain rfl : k = l.length := by omega
      clear hk
      have HB2 := HB.out
      rw [List.take_length] at HB2
      have HB3 := Asd.mk HB2
      clear HB2
      go_wp2_with fail
      refine (bstring_calls w.heap.size w.heap.size (keyL l) _ HB3.out HW.out.size).mono ?_
      rintro e w2 ⟨rfl, -, hb2, -⟩
      have HW2 := Asd.mk (HW.out.trans hb2)
      clear hb2
      go_wp2_with fail
      go_ret
      exact ⟨rfl, HW2.out⟩
    | succ k1 =>
      have hlt : k < l.length := by omega
      have hlt2 : decide (k < l.length) = true := decide_eq_true hlt
      obtain ⟨g, off, rfl, hg, hcell⟩ := HC.out (by omega)
      obtain ⟨p, hp⟩ : ∃ p, l[k]? = some p := ⟨_, List.getElem?_eq_getElem hlt⟩
      have hps : p.size ≤ 2000 := HS.out p (List.mem_of_getElem? hp)
      have hcw := (HW.out.cell (p := ⟨g, off + k, none⟩) hg).trans (hcell k p hp)
      have HT := Asd.mk (keyL_take hp)
      have HLEN : Asd ((keyL (l.take k)).length ≤ 2000 * 4001) := ⟨by
        have h1 := keyL_length_le (l.take k) 2000 (fun s hs => HS.out s (List.mem_of_mem_take hs))
        have h2 := List.length_take_le k l
        have h3 : (l.take k).length * (2 * 2000 + 1) ≤ 2000 * 4001 := Nat.mul_le_mul (by omega) (by omega)
        omega⟩
      obtain ⟨f0, f1, f2, f3⟩ := four_cells wr
      have HN := Asd.mk (new_calls _ wr.heap.size 4 f0 f1 f2 f3)
      have HBA := Asd.mk (builder_below HB.out ((Below.refl _ wr).alloc (Nat.le_refl _) (.cells #[.string b1, .string b2, .string b3, .string b4] 9)))
      have HWA := Asd.mk (HW.out.alloc HW.out.size (.cells #[.string b1, .string b2, .string b3, .string b4] 9))
      clear f0 f1 f2 f3 hcell hp hk
      go_wp2_with fail
      have hdef : (wr.alloc (.cells #[.string ⟨#[92]⟩, .string ⟨#[92, 92]⟩, .string ⟨#[58]⟩, .string ⟨#[92, 58]⟩] 9)) = (wr.alloc (.cells #[.string b1, .string b2, .string b3, .string b4] 9)) := rfl
      rw [hdef]
      clear hdef
      generalize (wr.alloc (.cells #[.string b1, .string b2, .string b3, .string b4] 9)) = w2 at *
      refine HN.out.mono ?_
      rintro e w3 ⟨rb, gg, cc, x2, x3, rfl, h1, h2, hb3, hr, f0, f1, f2, f3⟩
      have HR := Asd.mk (replace_calls w3 w2.heap.size rb gg cc x2 x3 p h1 h2 (by omega) hr f0 f1 f2 f3)
      have HW3 := Asd.mk (HWA.out.trans (hb3.mono HWA.out.size))
      have HB23 := Asd.mk hb3
      clear h1 h2 hb3 hr f0 f1 f2 f3
      go_wp2_with fail
      refine HR.out.mono ?_
      rintro e w4 ⟨rfl, hb4⟩
      have HW4 := Asd.mk (HW3.out.trans (hb4.mono HWA.out.size))
      have HB4 := Asd.mk (builder_below HBA.out (HB23.out.trans hb4))
      have hel := escL_length_le p.data.toList
      rw [show p.data.toList.length = p.size from Array.length_toList] at hel
      have hel2 : (part1 p).length = (escL p.data.toList).length + 1 := by unfold part1; simp
      have HP1 : Asd ((part1 p).length ≤ 4001) := ⟨by omega⟩
      clear hel2
      have hsum : ((⟨(escL p.data.toList).toArray⟩ : ByteArray) ++ ⟨#[58]⟩) = ⟨(part1 p).toArray⟩ := str_add _
      clear hb4
      go_wp2_with fail
      have hsz : (⟨(part1 p).toArray⟩ : ByteArray).size ≤ 4001 := HP1.out
      refine (writeString_calls w.heap.size w.heap.size _ ⟨(part1 p).toArray⟩ w4 HB4.out (by have := HLEN.out; rw [Lib.byteCells_length]; omega) HW4.out.size).mono ?_
      rintro e w5 ⟨rfl, hb5, hw5, -⟩
      have HB5 : Asd (Lib.IsBuilderF 42 5 w.heap.size w.heap.size (Lib.byteCells (keyL (l.take (k + 1)))) w5) := ⟨by
        have e5 : Lib.byteCells (keyL (l.take k)) ++ Lib.strCells ⟨(part1 p).toArray⟩ = Lib.byteCells (keyL (l.take (k + 1))) := by
          rw [HT.out]
          unfold Lib.byteCells Lib.strCells
          rw [List.map_append]
        rw [← e5]
        exact .inr hb5⟩
      have HW5 := Asd.mk (HW4.out.trans hw5)
      clear hb5 hw5 hsz hsum
      go_wp2_with fail
      go_roundg k1
      case measure => omega
      case rel => exact ⟨k + 1, by go_num, ⟨by have := HK.out; omega⟩, HB5, HW5⟩
end Go.Proofs.YtacimedkchjfnaaGreat
end

section
/-! A text's sum: plain numbers. -/
namespace Go.Proofs.YtacimedkchjfnaaGreat

def fnv (h c : Nat) : Nat := ((h ^^^ c) * 1099511628211) % 18446744073709551616
def hsumL (l : List UInt8) : Nat := l.foldl (fun h c => fnv h c.toNat) 14695981039346656037
theorem hsumL_snoc (l : List UInt8) (c : UInt8) : hsumL (l ++ [c]) = fnv (hsumL l) c.toNat := by
  unfold hsumL
  rw [List.foldl_append, List.foldl_cons, List.foldl_nil]
theorem fnv_lt (h c : Nat) : fnv h c < 18446744073709551616 := Nat.mod_lt _ (by decide)
theorem foldl_lt (l : List UInt8) : ∀ h, h < 18446744073709551616 → l.foldl (fun h c => fnv h c.toNat) h < 18446744073709551616 := by
  induction l with
  | nil => exact fun h hh => hh
  | cons a l ih => exact fun h _ => ih _ (fnv_lt h a.toNat)
theorem hsumL_lt (l : List UInt8) : hsumL l < 18446744073709551616 := foldl_lt l _ (by decide)
def hsum (s : ByteArray) : Nat := hsumL s.data.toList
theorem odd_inj {a b : Nat} (ha : a < 18446744073709551616) (hb : b < 18446744073709551616) (h : a * 1099511628211 % 18446744073709551616 = b * 1099511628211 % 18446744073709551616) : a = b := by
  have h1 : (a * 1099511628211 % 18446744073709551616) * 14886173955864302971 % 18446744073709551616 = (b * 1099511628211 % 18446744073709551616) * 14886173955864302971 % 18446744073709551616 := by rw [h]
  have h2 : ∀ x, (x * 1099511628211 % 18446744073709551616) * 14886173955864302971 % 18446744073709551616 = x % 18446744073709551616 := by
    intro x
    rw [Nat.mod_mul_mod, Nat.mul_assoc, Nat.mul_mod, show 1099511628211 * 14886173955864302971 % 18446744073709551616 = 1 from by decide, Nat.mul_one, Nat.mod_mod]
  rw [h2, h2, Nat.mod_eq_of_lt ha, Nat.mod_eq_of_lt hb] at h1
  exact h1
theorem xor_lt {a b : Nat} (ha : a < 18446744073709551616) (hb : b < 18446744073709551616) : a ^^^ b < 18446744073709551616 := Nat.xor_lt_two_pow (n := 64) ha hb
theorem fnv_inj {a b c : Nat} (ha : a < 18446744073709551616) (hb : b < 18446744073709551616) (hc : c < 18446744073709551616) (h : fnv a c = fnv b c) : a = b := by
  have h1 := odd_inj (xor_lt ha hc) (xor_lt hb hc) h
  have h2 := congrArg (· ^^^ c) h1
  simpa [Nat.xor_assoc] using h2
theorem fnv_inj2 {a c d : Nat} (ha : a < 18446744073709551616) (hc : c < 18446744073709551616) (hd : d < 18446744073709551616) (h : fnv a c = fnv a d) : c = d := by
  have h1 := odd_inj (xor_lt ha hc) (xor_lt ha hd) h
  have h2 := congrArg (a ^^^ ·) h1
  simpa [← Nat.xor_assoc] using h2
theorem foldl_inj (l : List UInt8) : ∀ a b, a < 18446744073709551616 → b < 18446744073709551616 → l.foldl (fun h c => fnv h c.toNat) a = l.foldl (fun h c => fnv h c.toNat) b → a = b := by
  induction l with
  | nil => exact fun a b _ _ h => h
  | cons c l ih =>
    intro a b ha hb h
    have hc := c.toNat_lt
    exact fnv_inj ha hb (by omega) (ih _ _ (fnv_lt _ _) (fnv_lt _ _) h)
/-- With one byte another one the sum is another one. -/
theorem hsumL_set {l : List UInt8} {k : Nat} {b c : UInt8} (hb : l[k]? = some b) (hne : b ≠ c) : hsumL (l.set k c) ≠ hsumL l := by
  have hk := (List.getElem?_eq_some_iff.1 hb).1
  have e1 : l = l.take k ++ b :: l.drop (k + 1) := by
    have h2 : l.drop k = b :: l.drop (k + 1) := by
      rw [List.drop_eq_getElem_cons hk]
      rw [List.getElem?_eq_getElem hk] at hb
      injection hb with hb
      rw [hb]
    rw [← h2, List.take_append_drop]
  have e2 : l.set k c = l.take k ++ c :: l.drop (k + 1) := by
    rw [List.set_eq_take_append_cons_drop, if_pos hk]
  intro h
  rw [e2] at h
  have e3 : hsumL l = hsumL (l.take k ++ b :: l.drop (k + 1)) := congrArg hsumL e1
  rw [e3] at h
  unfold hsumL at h
  rw [List.foldl_append, List.foldl_append, List.foldl_cons, List.foldl_cons] at h
  have h1 := foldl_inj _ _ _ (fnv_lt _ _) (fnv_lt _ _) h
  have hc := c.toNat_lt
  have hb2 := b.toNat_lt
  have h2 := fnv_inj2 (foldl_lt _ _ (by decide)) (by omega) (by omega) h1
  exact hne (UInt8.toNat_inj.1 h2.symm)
end Go.Proofs.YtacimedkchjfnaaGreat
end

section
/-! The sums and the shards: the walks. -/
namespace Go.Proofs.YtacimedkchjfnaaGreat
open Go.RowKit
set_option linter.unusedSimpArgs false
set_option linter.unusedVariables false

theorem take_snoc (s : ByteArray) (k : Nat) (h : k < s.size) : s.data.toList.take (k + 1) = s.data.toList.take k ++ [s[k]] := by
  rw [List.take_succ_eq_append_getElem (by simpa using h)]; rfl
theorem fnv_step (h c : Nat) (hh : h < 18446744073709551616) (hc : c < 256) :
    IntKind.u64.wrap (bits .xor .u64 (h : Int) (IntKind.u64.wrap (c : Int)) * 1099511628211) = ((fnv h c : Nat) : Int) := by
  have h1 : IntKind.u64.wrap (c : Int) = (c : Int) := by rw [IntKind.wrap_u64]; omega
  rw [h1, bits_xor_u64_nat h c hh (by omega), IntKind.wrap_u64]
  unfold fnv
  omega
theorem ret_u64 {a b : Int} (h : a = b) : Ending.returned (.int .u64 a) = .returned (.int .u64 b) := by rw [h]
theorem ret_i64 {a b : Int} (h : a = b) : Ending.returned (.int .i64 a) = .returned (.int .i64 b) := by rw [h]
theorem hsumL_all (s : ByteArray) : hsumL (s.data.toList.take s.size) = hsum s := by
  rw [List.take_of_length_le (by rw [Array.length_toList]; exact Nat.le_refl _)]
  rfl

set_option maxHeartbeats 2000000 in
theorem sum_calls (s : ByteArray) (w : World) (hs : s.size ≤ 140737488355328) : Calls Tryz.prog 13 #[.string s] w fun e w' => e = .returned (.int .u64 (hsum s : Nat)) ∧ w = w' := by
  go_enter Tryz.func13, Tryz.ntmps13
  go_wp2
  go_loop [3, 4, 7] (fun h _ i => ∃ k : Nat, k ≤ s.size ∧ i = .int .i64 (k : Int) ∧ h = .int .u64 ((hsumL (s.data.toList.take k) : Nat) : Int)) (fun _ _ i => s.size - (intOf i).toNat)
  case atStart => exact ⟨0, Nat.zero_le _, rfl, rfl⟩
  case round =>
    obtain ⟨k, hk, rfl, rfl⟩ := hrel
    by_cases hlt : k < s.size
    · have HS := Asd.mk (fnv_step (hsumL (s.data.toList.take k)) s[k].toNat (hsumL_lt _) (by have := s[k].toNat_lt; omega))
      have HT := Asd.mk (take_snoc s k hlt)
      go_wp2
      refine ⟨⟨k + 1, by omega, by go_num, ?_⟩, by simp [intOf]; omega⟩
      rw [HS.out, HT.out, hsumL_snoc]
    · go_wp2
      go_ret
      exact ⟨ret_u64 (by rw [List.take_of_length_le (by simp; omega)]; rfl), rfl⟩
set_option maxHeartbeats 2000000 in
theorem rsum_calls (s : ByteArray) (w : World) (hs : s.size ≤ 140737488355328) : Calls Tryz.prog 27 #[.string s] w fun e w' => e = .returned (.int .u64 (hsum s : Nat)) ∧ w = w' := by
  go_enter Tryz.func27, Tryz.ntmps27
  go_wp2
  go_loop [3, 4] (fun h i => ∃ k : Nat, k ≤ s.size ∧ i = .int .i64 (k : Int) ∧ h = .int .u64 ((hsumL (s.data.toList.take k) : Nat) : Int)) (fun _ i => s.size - (intOf i).toNat)
  case atStart => exact ⟨0, Nat.zero_le _, rfl, rfl⟩
  case round =>
    obtain ⟨k, hk, rfl, rfl⟩ := hrel
    by_cases hlt : k < s.size
    · have HS := Asd.mk (fnv_step (hsumL (s.data.toList.take k)) s[k].toNat (hsumL_lt _) (by have := s[k].toNat_lt; omega))
      have HT := Asd.mk (take_snoc s k hlt)
      go_wp2
      refine ⟨⟨k + 1, by omega, by go_num, ?_⟩, by simp [intOf]; omega⟩
      rw [HS.out, HT.out, hsumL_snoc]
    · go_wp2
      go_ret
      exact ⟨ret_u64 (by rw [List.take_of_length_le (by simp; omega)]; rfl), rfl⟩
/-- How many shards. -/
def clipI (n : Int) : Nat := (max 1 (min n 64)).toNat
theorem clipI_bounds (n : Int) : 1 ≤ clipI n ∧ clipI n ≤ 64 := by unfold clipI; omega
theorem clipI_cast (n : Int) : ((clipI n : Nat) : Int) = max 1 (min n 64) := by unfold clipI; omega
theorem clip_calls (n : Int) (w : World) : Calls Tryz.prog 15 #[.int .i64 n] w fun e w' => e = .returned (.int .i64 (clipI n : Nat)) ∧ w = w' := by
  have HC := Asd.mk (clipI_cast n)
  go_enter Tryz.func15, Tryz.ntmps15
  go_wp2
  go_ret
  exact ⟨ret_i64 HC.out.symm, rfl⟩
theorem rclip_calls (n : Int) (w : World) : Calls Tryz.prog 17 #[.int .i64 n] w fun e w' => e = .returned (.int .i64 (clipI n : Nat)) ∧ w = w' := by
  have HC := Asd.mk (clipI_cast n)
  go_enter Tryz.func17, Tryz.ntmps17
  go_wp2
  all_goals
    go_ret
    exact ⟨ret_i64 (by rw [HC.out]; omega), rfl⟩
def shardN (s : ByteArray) (n : Int) : Nat := hsum s % clipI n
theorem shardN_lt (s : ByteArray) (n : Int) : shardN s n < clipI n := Nat.mod_lt _ (by have := clipI_bounds n; omega)
theorem shard_calls (s : ByteArray) (n : Int) (w : World) (hs : s.size ≤ 140737488355328) : Calls Tryz.prog 11 #[.string s, .int .i64 n] w fun e w' => e = .returned (.int .i64 (shardN s n : Nat)) ∧ w = w' := by
  have hc := clipI_bounds n
  have hh : hsum s < 18446744073709551616 := hsumL_lt _
  have HS : Asd (((shardN s n : Nat) : Int) = ((hsum s : Nat) : Int) % ((clipI n : Nat) : Int)) := ⟨by unfold shardN; simp⟩
  have h1 := shardN_lt s n
  generalize shardN s n = r at *
  have HA := Asd.mk (sum_calls s w hs)
  have HB := Asd.mk (clip_calls n w)
  generalize hsum s = h at *
  generalize clipI n = c at *
  go_enter Tryz.func11, Tryz.ntmps11
  go_wp2_with fail
  refine HA.out.mono ?_
  rintro e w' ⟨rfl, rfl⟩
  go_wp2_with fail
  refine HB.out.mono ?_
  rintro e w' ⟨rfl, rfl⟩
  have hw1 : IntKind.u64.wrap (c : Int) = (c : Int) := by rw [IntKind.wrap_u64]; omega
  have hw2 : IntKind.i64.wrap ((h : Int) % (c : Int)) = ((h : Int) % (c : Int)) := IntWalk.i64_in _ (by have := HS.out; omega)
  have hc0 : ((c : Int) == 0) = false := beq_eq_false_iff_ne.2 (by omega)
  have hc1 : ¬ ((c : Int) = 0) := by omega
  go_wp2_with fail
  go_ret
  exact ⟨ret_i64 HS.out.symm, rfl⟩
theorem rshard_calls (s : ByteArray) (n : Int) (w : World) (hs : s.size ≤ 140737488355328) : Calls Tryz.prog 18 #[.string s, .int .i64 n] w fun e w' => e = .returned (.int .i64 (shardN s n : Nat)) ∧ w = w' := by
  have hc := clipI_bounds n
  have hh : hsum s < 18446744073709551616 := hsumL_lt _
  have HS : Asd (((shardN s n : Nat) : Int) = ((hsum s : Nat) : Int) % ((clipI n : Nat) : Int)) := ⟨by unfold shardN; simp⟩
  have h1 := shardN_lt s n
  generalize shardN s n = r at *
  have HA := Asd.mk (rsum_calls s w hs)
  have HB := Asd.mk (rclip_calls n w)
  generalize hsum s = h at *
  generalize clipI n = c at *
  go_enter Tryz.func18, Tryz.ntmps18
  go_wp2_with fail
  refine HA.out.mono ?_
  rintro e w' ⟨rfl, rfl⟩
  go_wp2_with fail
  refine HB.out.mono ?_
  rintro e w' ⟨rfl, rfl⟩
  have hw1 : IntKind.u64.wrap (c : Int) = (c : Int) := by rw [IntKind.wrap_u64]; omega
  have hw2 : IntKind.i64.wrap ((h : Int) % (c : Int)) = ((h : Int) % (c : Int)) := IntWalk.i64_in _ (by have := HS.out; omega)
  have hc0 : ((c : Int) == 0) = false := beq_eq_false_iff_ne.2 (by omega)
  have hc1 : ¬ ((c : Int) = 0) := by omega
  go_wp2_with fail
  go_ret
  exact ⟨ret_i64 HS.out.symm, rfl⟩
/-- The example that all laws ask. -/
theorem key_known : keyL [⟨#[97]⟩, ⟨#[98, 58, 99]⟩] = [97, 58, 98, 92, 58, 99, 58] := by decide
theorem sum_empty : hsum ⟨#[]⟩ = 14695981039346656037 := rfl
theorem sum_a : hsum ⟨#[97]⟩ = 12638187200555641996 := by
  unfold hsum hsumL
  simp [fnv]
theorem known_calls (w : World) : Calls Tryz.prog 7 #[] w fun e w' => e = .returned (.bool true) ∧ Below w.heap.size w w' := by
  have HA := Asd.mk (sum_calls ⟨#[]⟩ w (by decide))
  have HB := Asd.mk (sum_calls ⟨#[97]⟩ w (by decide))
  rw [sum_empty] at HA
  rw [sum_a] at HB
  have HR : Asd (StrAt (w.alloc (.cells #[.string ⟨#[97]⟩, .string ⟨#[98, 58, 99]⟩] 9)) (.slice (some ⟨w.heap.size, 0, none⟩) 2 2) [⟨#[97]⟩, ⟨#[98, 58, 99]⟩]) :=
    ⟨⟨_, 2, rfl, by decide, fun _ => ⟨w.heap.size, 0, rfl, by simp, fun j s hj => by
      rw [Nat.zero_add]
      match j, hj with
      | 0, hj => simp at hj; subst hj; exact cell_of_row _ _ 0 _ _ _ (heap_alloc_new _ _)
      | 1, hj => simp at hj; subst hj; exact cell_of_row _ _ 1 _ _ _ (heap_alloc_new _ _)⟩⟩⟩
  have HK := Asd.mk (key_calls _ _ _ HR.out (by intro s hs; simp at hs; rcases hs with rfl | rfl <;> decide) (by decide))
  rw [key_known] at HK
  have HW := Asd.mk ((Below.refl _ w).alloc (Nat.le_refl _) (.cells #[.string ⟨#[97]⟩, .string ⟨#[98, 58, 99]⟩] 9))
  go_enter Tryz.func7, Tryz.ntmps7
  go_wp2_with fail
  refine HA.out.mono ?_
  rintro e w' ⟨rfl, rfl⟩
  go_wp2_with fail
  refine HB.out.mono ?_
  rintro e w' ⟨rfl, rfl⟩
  go_wp2_with fail
  refine HK.out.mono ?_
  rintro e w' ⟨rfl, hb⟩
  have HB2 := Asd.mk (HW.out.trans (hb.mono HW.out.size))
  clear hb
  go_wp2_with fail
  go_ret
  exact ⟨rfl, HB2.out⟩
end Go.Proofs.YtacimedkchjfnaaGreat
end
