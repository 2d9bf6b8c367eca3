/- Part 19 of the proof: D2, D3, D4, D5, E0, E1, E2, E3. -/
import Derived.Test.YtacimedkchjfnaaGreatV18
import Derived.Maps.AppendAt
section
/-! Long, Same, and the reference's Key: the walks. -/
namespace Go.Proofs.YtacimedkchjfnaaGreat
open Go.RowKit
set_option linter.unusedSimpArgs false
set_option linter.unusedVariables false

def longL (l : List ByteArray) : Nat := (l.map fun s => 1 + s.size).sum
theorem longL_take (l : List ByteArray) {k : Nat} {d : ByteArray} (h : l[k]? = some d) : longL (l.take (k + 1)) = longL (l.take k) + 1 + d.size := by
  unfold longL
  rw [List.take_add_one, h, List.map_append, List.sum_append]
  simp
  omega
theorem longL_append (a b : List ByteArray) : longL (a ++ b) = longL a + longL b := by unfold longL; rw [List.map_append, List.sum_append]
theorem longL_split (l : List ByteArray) (k : Nat) : longL (l.take k) + longL (l.drop k) = longL l := by
  rw [← longL_append, List.take_append_drop]
theorem longL_mem {l : List ByteArray} {d : ByteArray} (h : d ∈ l) : 1 + d.size ≤ longL l := by
  induction l with
  | nil => simp at h
  | cons a l ih =>
    unfold longL at ih ⊢
    simp only [List.map_cons, List.sum_cons]
    rcases List.mem_cons.1 h with rfl | h
    · omega
    · have := ih h; omega
theorem longL_len (l : List ByteArray) : l.length ≤ longL l := by
  induction l with
  | nil => simp [longL]
  | cons a l ih =>
    unfold longL at ih ⊢
    simp only [List.map_cons, List.sum_cons, List.length_cons]
    omega
theorem wrap_add1 (a b : Int) : IntKind.i64.wrap (IntKind.i64.wrap (IntKind.i64.wrap a + 1) + b) = IntKind.i64.wrap (a + 1 + b) := by
  simp only [IntKind.wrap_i64]
  omega
set_option maxHeartbeats 4000000 in
theorem long_calls (w : World) (v : Value) (l : List ByteArray) (H : StrAt w v l) :
    Calls Tryz.prog 6 #[v] w fun e w' => e = .returned (.int .i64 (IntKind.i64.wrap (longL l : Nat))) ∧ w = w' := by
  obtain ⟨A, c, rfl, hm, hr⟩ := H
  have HR := Asd.mk hr
  clear hr
  have hc0 : 0 ≤ l.length := Nat.zero_le _
  go_enter Tryz.func6, Tryz.ntmps6
  go_wp2
  go_loop [3, 4] (fun s i => ∃ k : Nat, k ≤ l.length ∧ i = .int .i64 (k : Int) ∧ s = .int .i64 (IntKind.i64.wrap ((longL (l.take k) : Nat) : Int))) (fun _ i => l.length - (intOf i).toNat)
  case atStart => exact ⟨0, Nat.zero_le _, rfl, rfl⟩
  case round =>
    obtain ⟨k, hk, rfl, rfl⟩ := hrel
    by_cases hlt : k < l.length
    · obtain ⟨b, off, rfl, _, hcell⟩ := HR.out (by omega)
      obtain ⟨d, hd⟩ : ∃ d, l[k]? = some d := ⟨_, List.getElem?_eq_getElem hlt⟩
      have c1 := hcell k d hd
      have HL := Asd.mk (longL_take l hd)
      clear hcell hd
      generalize longL (l.take k) = s at *
      have HW : Asd (IntKind.i64.wrap (IntKind.i64.wrap (IntKind.i64.wrap (s : Int) + 1) + (d.size : Int)) = IntKind.i64.wrap ((s + 1 + d.size : Nat) : Int)) := ⟨by rw [wrap_add1]; congr 1⟩
      go_wp2
      refine ⟨⟨k + 1, by omega, by go_num, ?_⟩, by simp [intOf]; omega⟩
      rw [HL.out]
      have hW := HW.out
      simp only [IntKind.wrap_i64] at hW ⊢
      simp only [wrap64]
      exact congrArg (Value.int .i64) hW
    · obtain rfl : k = l.length := by omega
      go_wp2
      go_ret
      exact ⟨ret_i64 (by first | rfl | rw [List.take_length]), rfl⟩
set_option maxHeartbeats 4000000 in
theorem same_calls (w : World) (v1 v2 : Value) (l1 l2 : List ByteArray) (h1 : StrAt w v1 l1) (h2 : StrAt w v2 l2) :
    Calls Tryz.prog 12 #[v1, v2] w fun e w' => e = .returned (.bool (decide (l1 = l2))) ∧ ∃ m, w' = w.drewN m := by
  obtain ⟨A1, c1, rfl, hm1, hs1⟩ := h1
  obtain ⟨A2, c2, rfl, hm2, hs2⟩ := h2
  by_cases hl : l1.length = l2.length
  · have hlb : ((l1.length : Int) != (l2.length : Int)) = false := by rw [bne_eq_false_iff_eq]; omega
    have HS1 := Asd.mk hs1
    have HS2 := Asd.mk hs2
    have HL := Asd.mk hl
    clear hs1 hs2 hl
    go_enter Tryz.func12, Tryz.ntmps12
    go_wp2
    go_loopg [5] l1.length (fun kq v5 w' => ∃ k : Nat, v5 = .int .i64 (k : Int) ∧ Asd (kq + k = l1.length) ∧ Asd (∀ j : Nat, j < k → l1[j]? = l2[j]?) ∧ Asd (∃ m, w' = w.drewN m))
    case atStart => exact ⟨0, rfl, ⟨by omega⟩, ⟨fun j hj => by omega⟩, ⟨0, rfl⟩⟩
    case round =>
      obtain ⟨k, rfl, HK, HE, HW⟩ := hrel
      have hk := HK.out
      cases gk with
      | zero =>
        have hge : ¬ (k < l1.length) := by omega
        have hge2 : (decide (k < l1.length)) = false := by rw [decide_eq_false_iff_not]; omega
        clear hk
        go_wp2
        go_ret
        refine ⟨?_, HW.out⟩
        have : l1 = l2 := by
          apply List.ext_getElem?
          intro j
          rcases Nat.lt_or_ge j k with h | h
          · exact HE.out j h
          · have := HL.out
            rw [List.getElem?_eq_none (by omega), List.getElem?_eq_none (by omega)]
        rw [decide_eq_true this]
        rfl
      | succ k1 =>
        have hlt : k < l1.length := by omega
        have hlt2 : k < l2.length := by have := HL.out; omega
        obtain ⟨g1, o1, rfl, hg1, hc1⟩ := HS1.out (by omega)
        obtain ⟨g2, o2, rfl, hg2, hc2⟩ := HS2.out (by omega)
        obtain ⟨s1, hs1⟩ : ∃ s, l1[k]? = some s := ⟨_, List.getElem?_eq_getElem hlt⟩
        obtain ⟨s2, hs2⟩ : ∃ s, l2[k]? = some s := ⟨_, List.getElem?_eq_getElem hlt2⟩
        obtain ⟨m, hm⟩ := HW.out
        subst hm
        have d1 : w.cell? ⟨g1, o1 + k, none⟩ = some (.string s1) := hc1 k s1 hs1
        have d2 : w.cell? ⟨g2, o2 + k, none⟩ = some (.string s2) := hc2 k s2 hs2
        have HS := Asd.mk (And.intro hs1 hs2)
        clear hs1 hs2 hc1 hc2 hk
        by_cases he : s1 = s2
        · have heb : (s1.toList != s2.toList) = false := by rw [he]; simp
          have heb2 : (s1.toList == s2.toList) = true := by rw [he]; simp
          have HEQ := Asd.mk he
          clear he
          go_wp2
          go_quiet (fail)
          go_wp2
          go_roundg k1
          case measure => omega
          case rel => exact ⟨k + 1, by go_num, ⟨by have := HK.out; omega⟩, ⟨fun j hj => by
            rcases Nat.lt_or_ge j k with h | h
            · exact HE.out j h
            · obtain rfl : j = k := by omega
              rw [HS.out.1, HS.out.2, HEQ.out]⟩, ⟨_, rfl⟩⟩
        · have heb : (s1.toList != s2.toList) = true := by
            rw [bne_iff_ne]
            intro e
            exact he (ByteArray.ext (by simpa [ByteArray.toList_eq] using e))
          have heb2 : (s1.toList == s2.toList) = false := by
            rw [beq_eq_false_iff_ne]
            intro e
            exact he (ByteArray.ext (by simpa [ByteArray.toList_eq] using e))
          have HNE := Asd.mk he
          clear he
          go_wp2
          go_quiet (fail)
          go_wp2
          go_ret
          refine ⟨?_, _, World.drewN_drewN ..⟩
          have : ¬ l1 = l2 := fun e => by
            have := HS.out.1
            rw [e, HS.out.2] at this
            injection this with this
            exact HNE.out this.symm
          rw [decide_eq_false this]
          rfl
  · have hlb : ((l1.length : Int) != (l2.length : Int)) = true := by rw [bne_iff_ne]; omega
    have hne : ¬ l1 = l2 := fun e => hl (by rw [e])
    rw [decide_eq_false hne]
    clear hl hne hs1 hs2
    go_enter Tryz.func12, Tryz.ntmps12
    go_wp2
    go_ret
    exact ⟨rfl, 0, rfl⟩
end Go.Proofs.YtacimedkchjfnaaGreat
end

section
/-! SameRows, and the reference's Spread: the walks. -/
namespace Go.Proofs.YtacimedkchjfnaaGreat
open Go.RowKit
set_option linter.unusedSimpArgs false
set_option linter.unusedVariables false
attribute [local go_sem ↓] Go.wp_at_zero Go.wp_at_succ

/-- A slice that reads as rows of texts. -/
def RowsR (w : World) (v : Value) (F : List (List ByteArray)) : Prop :=
  ∃ (A : Option Addr) (c : Nat) (vs : List Value), v = .slice A F.length c ∧ F.length ≤ 9223372036854775807 ∧ vs.length = F.length ∧ (0 < F.length → ∃ g off, A = some ⟨g, off, none⟩ ∧ g < w.heap.size ∧ ∀ (j : Nat) (u : Value), vs[j]? = some u → w.cell? ⟨g, off + j, none⟩ = some u) ∧
    ∀ (j : Nat) (u : Value) (l : List ByteArray), vs[j]? = some u → F[j]? = some l → StrAt w u l
theorem RowsR.drewN {w : World} {v : Value} {F : List (List ByteArray)} (h : RowsR w v F) (m : Nat) : RowsR (w.drewN m) v F := h
theorem StrAt.drewN {w : World} {v : Value} {F : List ByteArray} (h : StrAt w v F) (m : Nat) : StrAt (w.drewN m) v F := h
theorem RowsR.below {B : Nat} {w w' : World} {v : Value} {F : List (List ByteArray)} (h : RowsR w v F) (hb : Below B w w') (hB : w.heap.size ≤ B) : RowsR w' v F := by
  obtain ⟨A, c, vs, h1, h2, h3, h4, h5⟩ := h
  refine ⟨A, c, vs, h1, h2, h3, fun hl => ?_, fun j u l hu hl => (h5 j u l hu hl).below hb hB⟩
  obtain ⟨g, off, h6, h7, h8⟩ := h4 hl
  exact ⟨g, off, h6, Nat.lt_of_lt_of_le h7 hb.size, fun j u hj => (hb.cell (p := ⟨g, off + j, none⟩) (Nat.lt_of_lt_of_le h7 hB)).trans (h8 j u hj)⟩
theorem same_yes {w : World} {v1 v2 : Value} {l1 l2 : List ByteArray} (h1 : StrAt w v1 l1) (h2 : StrAt w v2 l2) (he : l1 = l2) : Calls Tryz.prog 12 #[v1, v2] w fun e w' => e = .returned (.bool true) ∧ ∃ m, w' = w.drewN m := by
  have := same_calls w v1 v2 l1 l2 h1 h2
  rwa [decide_eq_true he] at this
theorem same_no {w : World} {v1 v2 : Value} {l1 l2 : List ByteArray} (h1 : StrAt w v1 l1) (h2 : StrAt w v2 l2) (he : ¬ l1 = l2) : Calls Tryz.prog 12 #[v1, v2] w fun e w' => e = .returned (.bool false) ∧ ∃ m, w' = w.drewN m := by
  have := same_calls w v1 v2 l1 l2 h1 h2
  rwa [decide_eq_false he] at this
set_option maxRecDepth 20000 in
set_option maxHeartbeats 8000000 in
theorem sameRows_calls (w : World) (v1 v2 : Value) (l1 l2 : List (List ByteArray)) (h1 : RowsR w v1 l1) (h2 : RowsR w v2 l2) :
    Calls Tryz.prog 8 #[v1, v2] w fun e w' => e = .returned (.bool (decide (l1 = l2))) ∧ ∃ m, w' = w.drewN m := by
  obtain ⟨A1, c1, vs1, rfl, hm1, hn1, hs1, hr1⟩ := h1
  obtain ⟨A2, c2, vs2, rfl, hm2, hn2, hs2, hr2⟩ := h2
  by_cases hl : l1.length = l2.length
  · have hlb : ((l1.length : Int) != (l2.length : Int)) = false := by rw [bne_eq_false_iff_eq]; omega
    have HS1 := Asd.mk hs1
    have HS2 := Asd.mk hs2
    have HR1 := Asd.mk hr1
    have HR2 := Asd.mk hr2
    have HN1 := Asd.mk hn1
    have HN2 := Asd.mk hn2
    have HL := Asd.mk hl
    clear hs1 hs2 hl hr1 hr2 hn1 hn2
    go_enter Tryz.func8, Tryz.ntmps8
    go_wp2
    go_loopg [5] l1.length (fun kq v5 w' => ∃ k : Nat, v5 = .int .i64 (k : Int) ∧ Asd (kq + k = l1.length) ∧ Asd (∀ j : Nat, j < k → l1[j]? = l2[j]?) ∧ Asd (∃ m, w' = w.drewN m))
    case atStart => exact ⟨0, rfl, ⟨by omega⟩, ⟨fun j hj => by omega⟩, ⟨0, rfl⟩⟩
    case round =>
      obtain ⟨k, rfl, HK, HE, HW⟩ := hrel
      have hk := HK.out
      cases gk with
      | zero =>
        have hge : ¬ (k < l1.length) := by omega
        have hge2 : (decide (k < l1.length)) = false := by rw [decide_eq_false_iff_not]; omega
        clear hk
        go_wp2
        go_ret
        refine ⟨?_, HW.out⟩
        have : l1 = l2 := by
          apply List.ext_getElem?
          intro j
          rcases Nat.lt_or_ge j k with h | h
          · exact HE.out j h
          · have := HL.out
            rw [List.getElem?_eq_none (by omega), List.getElem?_eq_none (by omega)]
        rw [decide_eq_true this]
        rfl
      | succ k1 =>
        have hlt : k < l1.length := by omega
        have hlt2 : k < l2.length := by have := HL.out; omega
        obtain ⟨g1, o1, rfl, hg1, hc1⟩ := HS1.out (by omega)
        obtain ⟨g2, o2, rfl, hg2, hc2⟩ := HS2.out (by omega)
        obtain ⟨u1, hu1⟩ : ∃ s, vs1[k]? = some s := ⟨_, List.getElem?_eq_getElem (by have := HN1.out; omega)⟩
        obtain ⟨u2, hu2⟩ : ∃ s, vs2[k]? = some s := ⟨_, List.getElem?_eq_getElem (by have := HN2.out; omega)⟩
        obtain ⟨s1, hs1⟩ : ∃ s, l1[k]? = some s := ⟨_, List.getElem?_eq_getElem hlt⟩
        obtain ⟨s2, hs2⟩ : ∃ s, l2[k]? = some s := ⟨_, List.getElem?_eq_getElem hlt2⟩
        obtain ⟨m, hm⟩ := HW.out
        subst hm
        have d1 : w.cell? ⟨g1, o1 + k, none⟩ = some u1 := hc1 k u1 hu1
        have d2 : w.cell? ⟨g2, o2 + k, none⟩ = some u2 := hc2 k u2 hu2
        have HA := Asd.mk (HR1.out k u1 s1 hu1 hs1)
        have HB := Asd.mk (HR2.out k u2 s2 hu2 hs2)
        have HS := Asd.mk (And.intro hs1 hs2)
        have hk0 : (0 : Int) ≤ (k : Int) := Int.natCast_nonneg _
        have hk1 : (k : Int) < (l1.length : Int) := by omega
        have hk2 : (k : Int) < (l2.length : Int) := by omega
        clear hs1 hs2 hc1 hc2 hk hu1 hu2
        by_cases he : s1 = s2
        · have HEQ := Asd.mk he
          clear he
          go_wp2_with fail
          go_region_held3 (fun w' => w'.cell? ⟨g1, o1 + k, none⟩ = some u1 ∧ w'.cell? ⟨g2, o2 + k, none⟩ = some u2) (go_keep)
            (first | (go_at_call 12; refine (same_yes (HA.out.drewN _) (HB.out.drewN _) HEQ.out).mono ?_; rintro e w' ⟨rfl, m', rfl⟩))
          go_wp2
          go_roundg k1
          case measure => omega
          case rel => exact ⟨k + 1, by go_num, ⟨by have := HK.out; omega⟩, ⟨fun j hj => by
            rcases Nat.lt_or_ge j k with h | h
            · exact HE.out j h
            · obtain rfl : j = k := by omega
              rw [HS.out.1, HS.out.2, HEQ.out]⟩, ⟨_, rfl⟩⟩
        · have HNE := Asd.mk he
          clear he
          go_wp2_with fail
          go_region_held3 (fun w' => w'.cell? ⟨g1, o1 + k, none⟩ = some u1 ∧ w'.cell? ⟨g2, o2 + k, none⟩ = some u2) (go_keep)
            (first | (go_at_call 12; refine (same_no (HA.out.drewN _) (HB.out.drewN _) HNE.out).mono ?_; rintro e w' ⟨rfl, m', rfl⟩))
          go_wp2
          go_ret
          refine ⟨?_, _, rfl⟩
          have : ¬ l1 = l2 := fun e => by
            have := HS.out.1
            rw [e, HS.out.2] at this
            injection this with this
            exact HNE.out this.symm
          rw [decide_eq_false this]
          rfl
  · have hlb : ((l1.length : Int) != (l2.length : Int)) = true := by rw [bne_iff_ne]; omega
    have hne : ¬ l1 = l2 := fun e => hl (by rw [e])
    rw [decide_eq_false hne]
    clear hl hne hs1 hs2 hr1 hr2 hn1 hn2
    go_enter Tryz.func8, Tryz.ntmps8
    go_wp2
    go_ret
    exact ⟨rfl, 0, rfl⟩
end Go.Proofs.YtacimedkchjfnaaGreat
end

section
/-! The reference's Spread: the walk. -/
namespace Go.Proofs.YtacimedkchjfnaaGreat
open Go.RowKit
set_option linter.unusedSimpArgs false
set_option linter.unusedVariables false

theorem inf22 : (Tryz.prog.info? 22).map (fun i => (i.zero, i.size, i.bytes)) = some (some (.slice none 0 0), 1, 24) := by kernel_rfl
/-- The rows so far. -/
structure SP (w : World) (L : List ByteArray) (nv : Int) (vo : Value) (vs : List Value) (wr : World) : Prop where
  bel : Below w.heap.size w wr
  out : wr.ownsRow w.heap.size 22 1 vo vs.length vs
  rows : ∀ (j : Nat) (u : Value), vs[j]? = some u → wr.ownsRow w.heap.size 9 1 u (spreadF L nv j).length ((spreadF L nv j).map .string)
/-- .. and a row under way. -/
structure SQ (w : World) (L : List ByteArray) (nv : Int) (vo : Value) (vs : List Value) (vl : Value) (ll : List ByteArray) (wr : World) : Prop extends SP w L nv vo vs wr where
  l : wr.ownsRow w.heap.size 9 1 vl ll.length (ll.map .string)
  ap : ∀ (j : Nat) (u : Value) (b : Nat), vs[j]? = some u → u.ownBlock = some b → vl.ownBlock ≠ some b
section
variable {w wr w' : World} {L : List ByteArray} {nv : Int} {vo vl v' : Value} {vs : List Value} {ll : List ByteArray} {d : ByteArray}
theorem SP.start (w : World) (L : List ByteArray) (nv : Int) : SP w L nv (.slice none 0 0) [] w := ⟨Below.refl _ _, World.ownsRow_nil .., fun j u h => by simp at h⟩
theorem SP.row (h : SP w L nv vo vs wr) : SQ w L nv vo vs (.slice none 0 0) [] wr := ⟨h, World.ownsRow_nil .., fun j u b _ _ => by simp [Value.ownBlock]⟩
theorem own_kind {w : World} {B : Nat} {e : TypeId} {size : Nat} {v : Value} {n : Nat} {xs : List Value} (h : w.ownsRow B e size v n xs) : ∀ g, v.ownBlock = some g → ∃ c fz, w.heap[g]? = some (.cells c e fz) := by
  intro g hg
  rcases h.2 with ⟨rfl, _⟩ | ⟨g', cap, cur, rfl, _, hh, _⟩
  · cases hg
  · cases hg; exact ⟨_, _, hh⟩
theorem kinds {base : Nat} {u v : Value} {n m : Nat} {xs ys : List Value} {e e' : TypeId} (h : wr.ownsRow base e 1 u n xs) (h' : wr.ownsRow base e' 1 v m ys) (he : e ≠ e') : u.ownBlock = none ∨ u.ownBlock ≠ v.ownBlock := by
  cases hb : u.ownBlock with
  | none => exact .inl rfl
  | some g =>
    right
    intro e2
    obtain ⟨c, fz, hc⟩ := own_kind h g hb
    obtain ⟨c', fz', hc'⟩ := own_kind h' g e2.symm
    rw [hc] at hc'
    cases hc'
    exact he rfl
theorem apart_kept {u v : Value} (h : ∀ b, u.ownBlock = some b → v.ownBlock ≠ some b) : u.ownBlock = none ∨ u.ownBlock ≠ v.ownBlock := by
  cases hb : u.ownBlock with
  | none => exact .inl rfl
  | some g => exact .inr (fun e => h g hb e.symm)
theorem SQ.app (h : SQ w L nv vo vs vl ll wr) (hown : w'.ownsRow w.heap.size 9 1 v' (ll.length + 1) (ll.map Value.string ++ [.string d])) (hg : (wr.alloc (.cells #[.string d] 9)).grownBy w' vl.ownBlock)
    (hat : v'.ownBlock = vl.ownBlock ∨ v'.ownBlock = some (wr.alloc (.cells #[.string d] 9)).heap.size) : SQ w L nv vo vs v' (ll ++ [d]) w' := by
  have hs := h.bel.size
  refine ⟨⟨(h.bel.alloc hs _).grown hg (by simp; omega) (fun k hk => (h.l.lt k hk).1), (h.out.alloc _).kept hg (kinds h.out h.l (by decide)), fun j u hu => ((h.rows j u hu).alloc _).kept hg (apart_kept fun b hb => h.ap j u b hu hb)⟩, ?_, fun j u b hu hb => ?_⟩
  · rw [List.length_append, List.map_append]; exact hown
  · rcases hat with e | e
    · rw [e]; exact h.ap j u b hu hb
    · rw [e]
      intro e2
      have := ((h.rows j u hu).lt b hb).2
      simp at e2
      omega
theorem SQ.push (h : SQ w L nv vo vs vl (spreadF L nv vs.length) wr) (hown : w'.ownsRow w.heap.size 22 1 v' (vs.length + 1) (vs ++ [vl])) (hg : (wr.alloc (.cells #[vl] 22)).grownBy w' vo.ownBlock) : SP w L nv v' (vs ++ [vl]) w' := by
  have hs := h.bel.size
  refine ⟨(h.bel.alloc hs _).grown hg (by simp; omega) (fun k hk => (h.out.lt k hk).1), by rw [List.length_append]; exact hown, fun j u hu => ?_⟩
  have key : ∀ (u : Value) (f : List ByteArray), wr.ownsRow w.heap.size 9 1 u f.length (f.map .string) → w'.ownsRow w.heap.size 9 1 u f.length (f.map .string) := fun u f hu => (hu.alloc _).kept hg (kinds hu h.out (by decide))
  rcases Nat.lt_or_ge j vs.length with hj | hj
  · rw [List.getElem?_append_left hj] at hu
    exact key _ _ (h.rows j u hu)
  · rw [List.getElem?_append_right hj] at hu
    have : j - vs.length = 0 := by
      rcases Nat.eq_zero_or_pos (j - vs.length) with h | h
      · exact h
      · rw [List.getElem?_eq_none (by simp; omega)] at hu; cases hu
    rw [this] at hu
    simp at hu
    subst hu
    obtain rfl : j = vs.length := by omega
    exact key _ _ h.l
def spreadRows (L : List ByteArray) (nv : Int) : List (List ByteArray) := (List.range (clipI nv)).map (spreadF L nv)
theorem spreadRows_get {L : List ByteArray} {nv : Int} {j : Nat} {l : List ByteArray} (h : (spreadRows L nv)[j]? = some l) : l = spreadF L nv j := by
  unfold spreadRows at h
  rw [List.getElem?_map] at h
  obtain ⟨i, hi, rfl⟩ := Option.map_eq_some_iff.1 h
  obtain ⟨hj, e⟩ := List.getElem?_eq_some_iff.1 hi
  simp at e
  rw [e]
theorem spreadRows_len (L : List ByteArray) (nv : Int) : (spreadRows L nv).length = clipI nv := by simp [spreadRows]
theorem SP.reads (h : SP w L nv vo vs wr) (hn : vs.length = clipI nv) : RowsR wr vo (spreadRows L nv) := by
  have hb := clipI_bounds nv
  obtain ⟨g, cap, hv, hg, hlt⟩ := h.out.form (by omega)
  have hcell := h.out.cells (g := g) (by rw [hv]; rfl)
  refine ⟨some ⟨g, 0, none⟩, cap, vs, by rw [spreadRows_len, ← hn]; exact hv, by rw [spreadRows_len]; omega, by rw [spreadRows_len]; exact hn, fun _ => ⟨g, 0, rfl, hlt, fun j u hu => ?_⟩, fun j u l hu hl => ?_⟩
  · have := hcell j u hu
    have e : (⟨g, 0, none⟩ : Addr).add j = ⟨g, 0 + j, none⟩ := by unfold Addr.add; split <;> simp_all
    rw [← e]
    exact this
  · rw [spreadRows_get hl]
    exact StrAt.own (h.rows j u hu)
end
set_option maxRecDepth 20000 in
set_option maxHeartbeats 8000000 in
theorem rspread_calls (w : World) (keys : Value) (L : List ByteArray) (nv : Int) (hK : StrAt w keys L) (hN : L.length ≤ 1000000) (hs : ∀ s ∈ L, s.size ≤ 140737488355328) :
    Calls Tryz.prog 10 #[keys, .int .i64 nv] w fun e w' => ∃ v, e = .returned v ∧ RowsR w' v (spreadRows L nv) ∧ Below w.heap.size w w' := by
  obtain ⟨A, c, rfl, hl, hr⟩ := hK
  have HR := Asd.mk hr
  have HN := Asd.mk hN
  have HS := Asd.mk hs
  have hcb := clipI_bounds nv
  obtain ⟨m, hm⟩ : ∃ m, m = clipI nv := ⟨_, rfl⟩
  have HM := Asd.mk hm
  have hm64 : m ≤ 64 := by omega
  clear hr hN hs hm hcb
  have HCL : ∀ w', Asd (Calls Tryz.prog 17 #[.int .i64 nv] w' fun e w'' => e = .returned (.int .i64 (m : Int)) ∧ w' = w'') := fun w' => ⟨by rw [HM.out]; exact rclip_calls nv w'⟩
  obtain ⟨i0, hi0, hz0, hz1, hz2⟩ := info_parts inf9
  obtain ⟨i1, hj0, hy0, hy1, hy2⟩ := info_parts inf22
  go_enter Tryz.func10, Tryz.ntmps10
  go_wp2
  have H0 : Asd (SP w L nv (.slice none 0 0) [] w) := ⟨SP.start w L nv⟩
  go_loopg [5, 6] m (fun kq v5 v6 wr => ∃ (s : Nat) (vs : List Value) (vo : Value), vo = v5 ∧ v6 = .int .i64 (s : Int) ∧ Asd (kq + s = m) ∧ Asd (vs.length = s) ∧ Asd (SP w L nv vo vs wr))
  case atStart => exact ⟨0, [], _, rfl, rfl, ⟨by omega⟩, ⟨rfl⟩, H0⟩
  case round =>
    clear H0
    obtain ⟨s, vs, vo, rfl, rfl, HK, HV, HP⟩ := hrel
    have hk := HK.out
    cases gk with
    | zero =>
      obtain rfl : s = m := by omega
      have hlt2 : decide (s < s) = false := by simp
      clear hk
      go_wp2_with fail
      refine (HCL _).out.mono ?_
      rintro e w2 ⟨rfl, rfl⟩
      go_wp2_with fail
      go_ret
      exact ⟨_, rfl, HP.out.reads (by rw [HV.out, HM.out]), HP.out.bel⟩
    | succ k1 =>
      have hlt : s < m := by omega
      have hlt2 : decide (s < m) = true := decide_eq_true hlt
      have HQ0 : Asd (SQ w L nv vo vs (.slice none 0 0) (spreadF (L.take 0) nv s) wr) := ⟨HP.out.row⟩
      clear hk
      go_wp2_with fail
      refine (HCL _).out.mono ?_
      rintro e w2 ⟨rfl, rfl⟩
      go_wp2_with fail
      obtain ⟨wo, rfl⟩ : ∃ wo : World, wo = wr := ⟨_, rfl⟩
      go_loopg [7, 8] L.length (fun kq2 v7 v8 wx => ∃ (k : Nat) (vl : Value), vl = v7 ∧ v8 = .int .i64 (k : Int) ∧ Asd (kq2 + k = L.length) ∧ Asd (SQ w L nv vo vs vl (spreadF (L.take k) nv s) wx))
      case atStart => exact ⟨0, _, rfl, rfl, ⟨by omega⟩, HQ0⟩
      case round =>
        clear HQ0
        obtain ⟨k, vl, rfl, rfl, HK2, HQ⟩ := hrel
        have hk2 := HK2.out
        cases gk with
        | zero =>
          obtain rfl : k = L.length := by omega
          have hlt3 : decide (L.length < L.length) = false := by simp
          have HQ2 : Asd (SQ w L nv vo vs vl (spreadF L nv vs.length) wr) := ⟨by have := HQ.out; rw [List.take_length] at this; rw [HV.out]; exact this⟩
          have HSZ := Asd.mk HQ2.out.bel.size
          have hform : ∃ (A' : Option Addr) (n' c' : Nat), vl = .slice A' n' c' := by
            rcases HQ.out.l.2 with ⟨e, _⟩ | ⟨_, _, _, e, _⟩ <;> exact ⟨_, _, _, e⟩
          obtain ⟨A', n', c', rfl⟩ := hform
          have hown0 := HQ2.out.out.alloc (.cells #[.slice A' n' c'] 22)
          have hvs : vs.length = s := HV.out
          clear hk2
          go_wp2_with (at_builtin; refine wpList_append_own_at _ rfl _ _ 26 rfl w.heap.size 22 i1 (.slice none 0 0) 1 24 Tryz.underlying26 hj0 hy0 hy1 hy2 rfl (by decide) _ _ _ rfl hown0 ⟨wr.heap.size, 0, none⟩ 1 1 [.slice A' n' c'] rfl rfl ?c1 ?c2 ?c3 ?c4 ?c5 ?_)
          case c1 => exact World.news_of_block (cs := #[.slice A' n' c']) (t := 22) (fr := (0, 0)) (heap_alloc_new wr _)
          case c2 => intro u hu; simp at hu; subst hu; rfl
          case c3 => unfold maxLen; omega
          case c4 => omega
          case c5 => have := HSZ.out; simp; omega
          intro v3 w3 hown3 hgrow3 _ _
          have HP3 := Asd.mk (HQ2.out.push (by rw [HV.out]; exact hown3) hgrow3)
          clear hown3 hgrow3 hown0 HSZ HQ2
          go_wp2_with fail
          go_roundg k1
          case measure => omega
          case rel => exact ⟨s + 1, vs ++ [.slice A' n' c'], v3, rfl, by go_num, ⟨by have := HK.out; omega⟩, ⟨by rw [List.length_append, HV.out]; rfl⟩, HP3⟩
        | succ k2 =>
          have hlt4 : k < L.length := by omega
          have hlt3 : decide (k < L.length) = true := decide_eq_true hlt4
          obtain ⟨g, off, rfl, hg, hcell⟩ := HR.out (by omega)
          obtain ⟨d, hd⟩ : ∃ s, L[k]? = some s := ⟨_, List.getElem?_eq_getElem hlt4⟩
          have hcw : wr.cell? ⟨g, off + k, none⟩ = some (.string d) := (HQ.out.bel.cell (p := ⟨g, off + k, none⟩) hg).trans (hcell k d hd)
          have hsz := HS.out d (List.mem_of_getElem? hd)
          have HSH := Asd.mk (rshard_calls d nv wr hsz)
          have HF := Asd.mk (spreadF_snoc (n := nv) hd s)
          have hki : (0 : Int) ≤ (k : Int) := Int.natCast_nonneg _
          have hkl : (k : Int) < (L.length : Int) := by omega
          clear hcell hd hg hk2 hsz
          generalize hq : shardN d nv = q at *
          by_cases hqs : q = s
          · subst hqs
            have hcmp : ((q : Int) == (q : Int)) = true := by simp
            have HF2 : Asd (spreadF (L.take (k + 1)) nv q = spreadF (L.take k) nv q ++ [d]) := ⟨by rw [HF.out, if_pos rfl]⟩
            have hown0 := HQ.out.l.alloc (.cells #[.string d] 9)
            have HSZ := Asd.mk HQ.out.bel.size
            have hcnt : (spreadF (L.take k) nv q).length ≤ 1000000 := by unfold spreadF; have h1 := List.length_filter_le (fun k => decide (shardN k nv = q)) (L.take k); have h2 := HN.out; rw [List.length_take] at h1; omega
            clear hq
            go_wp2_with fail
            refine HSH.out.mono ?_
            rintro e w3 ⟨rfl, rfl⟩
            go_wp2_with (at_builtin; refine wpList_append_own_at _ rfl _ _ 22 rfl w.heap.size 9 i0 (.string ⟨#[]⟩) 1 16 Tryz.underlying22 hi0 hz0 hz1 hz2 rfl (by decide) _ _ _ rfl hown0 ⟨wr.heap.size, 0, none⟩ 1 1 [.string d] rfl rfl ?c1 ?c2 ?c3 ?c4 ?c5 ?_)
            case c1 => exact World.news_of_block (cs := #[.string d]) (t := 9) (fr := (0, 0)) (heap_alloc_new wr _)
            case c2 => intro u hu; simp at hu; subst hu; rfl
            case c3 => unfold maxLen; omega
            case c4 => omega
            case c5 => have := HSZ.out; simp; omega
            intro v3 w3 hown3 hgrow3 _ hat3
            have HQ3 : Asd (SQ w L nv vo vs v3 (spreadF (L.take (k + 1)) nv q) w3) := ⟨by rw [HF2.out]; exact HQ.out.app hown3 hgrow3 (hat3.imp id fun e => e.trans (by simp))⟩
            clear hown3 hgrow3 hown0 HSZ hat3 HQ
            go_wp2_with fail
            go_roundg k2
            case measure => omega
            case rel => exact ⟨k + 1, v3, rfl, by go_num, ⟨by have := HK2.out; omega⟩, HQ3⟩
          · have hcmp : ((q : Int) == (s : Int)) = false := by rw [beq_eq_false_iff_ne]; omega
            have HQ3 : Asd (SQ w L nv vo vs vl (spreadF (L.take (k + 1)) nv s) wr) := ⟨by rw [HF.out, if_neg hqs]; exact HQ.out⟩
            clear hq
            go_wp2_with fail
            refine HSH.out.mono ?_
            rintro e w3 ⟨rfl, rfl⟩
            go_wp2_with fail
            go_roundg k2
            case measure => omega
            case rel => exact ⟨k + 1, vl, rfl, by go_num, ⟨by have := HK2.out; omega⟩, HQ3⟩
end Go.Proofs.YtacimedkchjfnaaGreat
end

section
/-! HashSpreads behind its Spread: the walk. -/
namespace Go.Proofs.YtacimedkchjfnaaGreat
open Go.RowKit
set_option linter.unusedSimpArgs false
set_option linter.unusedVariables false

noncomputable def body3 : Code := Tryz.f3.body.getD .skip
noncomputable def ops33 : Array Oper := match body3 with
  | .seq _ (.seq _ (.seq (.region _ ops _) _)) => ops
  | _ => #[]
/-- HashSpreads' slots behind its call of Spread. -/
def T3 (keys : Value) (nv : Int) (n lg : Int) (v : Value) : Array Value :=
  #[keys, .int .i64 nv, undef, undef, .bool false, keys, .int .i64 n, .bool false, .bool false, keys, .int .i64 lg, .bool false, .bool false, undef, keys, .int .i64 nv, v, undef, undef, undef, undef, undef, undef, undef]
theorem range_ops {l : List Nat} {P : Program} {ops : Array Oper} {Q : Exit → Act → World → Prop} (L : List Oper) (k : Nat) (h : ∀ j, L[j]? = ops[k + j]?) (hl : l = List.range' k L.length) : wpOps P ops Q l = wpList P ops Q L := by
  rw [hl]; exact wpOps_eq_wpList L k h
set_option maxRecDepth 20000 in
set_option maxHeartbeats 8000000 in
theorem rest3 {w : World} {keys v : Value} {L : List ByteArray} {nv n lg : Int} (hK : StrAt w keys L) (hN : L.length ≤ 1000000) (hs : ∀ s ∈ L, s.size ≤ 140737488355328) (hv : RowsR w v (spreadRows L nv)) :
    RestRuns Tryz.prog 3 [.inRegion ops33 [3, 4, 5, 6, 7, 8, 9, 10], .code .ret] ⟨T3 keys nv n lg v, []⟩ w (fun r w' => r = .bool true ∧ Below w.heap.size w w') := by
  refine rest1_of_wp Tryz.func3 ?_
  have HK := Asd.mk hK
  have HV := Asd.mk hv
  have HR := Asd.mk (rspread_calls w keys L nv hK hN hs)
  clear hK hv hN hs
  rw [range_ops (l := [3, 4, 5, 6, 7, 8, 9, 10]) [ops33.getD 3 default, ops33.getD 4 default, ops33.getD 5 default, ops33.getD 6 default, ops33.getD 7 default, ops33.getD 8 default, ops33.getD 9 default, ops33.getD 10 default] 3 (by
    intro j
    simp only [ops33, body3, Tryz.f3, Option.getD_some]
    match j with
    | 0 => rfl
    | 1 => rfl
    | 2 => rfl
    | 3 => rfl
    | 4 => rfl
    | 5 => rfl
    | 6 => rfl
    | 7 => rfl
    | j + 8 => simp only [List.getElem?_cons_succ, List.getElem?_nil]; rw [Array.getElem?_eq_none]; simp; omega) rfl]
  simp only [ops33, body3, Tryz.f3, Option.getD_some, T3]
  go_wp2_with fail
  refine HR.out.mono ?_
  rintro e w2 ⟨v2, rfl, hr2, hb2⟩
  have HS := Asd.mk (sameRows_calls w2 v v2 _ _ (HV.out.below hb2 (Nat.le_refl _)) hr2)
  rw [decide_eq_true rfl] at HS
  have HB := Asd.mk hb2
  clear hr2 hb2
  go_wp2_with fail
  refine HS.out.mono ?_
  rintro e w3 ⟨rfl, m, rfl⟩
  go_wp2_with fail
  refine (known_calls _).mono ?_
  rintro e w4 ⟨rfl, hb4⟩
  have HB4 : Asd (Below w.heap.size w w4) := ⟨HB.out.trans ((show Below w2.heap.size w2 w4 from ⟨hb4.os, hb4.tape, hb4.output, hb4.size, hb4.block⟩).mono HB.out.size)⟩
  clear hb4
  go_wp2_with fail
  go_ret
  exact ⟨_, rfl, rfl, HB4.out⟩
end Go.Proofs.YtacimedkchjfnaaGreat
end

section
/-! The last stretch beside leavers: goroutine 0's hearing is not asked for. -/
namespace Go.Proofs.YtacimedkchjfnaaGreat
set_option linter.unusedSimpArgs false
set_option linter.unusedVariables false
open Go.Conc
open Go.ConcN (sumTo upd sumTo_upd upd_ne upd_same)

/-- What is held of the trace in the last stretch. -/
structure PastE (Shun : Loc → Prop) (t : Trace) : Prop where
  clean : ∀ said, ¬ Race said t
  known : ∀ i a, touchAt t i = some a → a.loc.isMemory = true → Knows t 0 i ∨ (Shun a.loc ∧ a.kind = .atomic)
  over : t.HandedOver
theorem pastE_of {Shun : Loc → Prop} {B : Nat} {t : Trace} (h : Past Shun B t) : PastE Shun t := ⟨h.clean, h.known, h.over⟩
section
variable {Shun : Loc → Prop} {t u : Trace}
theorem PastE.zero (h : PastE Shun t) (hu : ∀ op ∈ u, op.g = 0) (hs : ∀ op ∈ u, ∀ b, op.act.touch? = some b → ¬ Shun b.loc) : PastE Shun (t ++ u) where
  clean := fun said => noRace_append (h.clean said) hu fun i a ha op hop b hb hc => (h.known i a ha hc.2.1).elim id fun x => absurd (hc.1 ▸ x.1) (hs op hop b hb)
  known := fun i a ha hm => by
    obtain ⟨op, hop, hoa⟩ := touch_of ha
    rcases getElem?_append_cases hop with ⟨_, h1⟩ | ⟨_, h1⟩
    · rcases h.known i a (by rw [touchAt_of h1]; exact hoa) hm with h2 | h2
      · exact .inl (h2.app u)
      · exact .inr h2
    · left
      have h2 := knows_own hop
      rw [hu op h1] at h2
      exact h2
  over := handedOver_app h.over fun op hop => .inl (hu op hop)
theorem PastE.other {g : Nat} (h : PastE Shun t) (hg : g ≠ 0) (hu : ∀ op ∈ u, op.g = g) (hn : ∀ op ∈ u, op.act.touch? = none) : PastE Shun (t ++ u) where
  clean := fun said => noRace_append (h.clean said) hu fun i a _ op hop b hb _ => by have := hn op hop; rw [hb] at this; cases this
  known := fun i a ha hm => by
    obtain ⟨op, hop, hoa⟩ := touch_of ha
    rcases getElem?_append_cases hop with ⟨_, h1⟩ | ⟨_, h1⟩
    · rcases h.known i a (by rw [touchAt_of h1]; exact hoa) hm with h2 | h2
      · exact .inl (h2.app u)
      · exact .inr h2
    · have := hn op h1
      rw [hoa] at this
      cases this
  over := handedOver_app h.over fun op hop => .inr (hn op hop)
theorem PastE.own (h : PastE Shun t) {fn : FuncId} {pos : String} {es : Array Event} (hes : ∀ e ∈ es, ∀ b, (MemAct.ofEvent e).touch? = some b → ¬ Shun b.loc) : PastE Shun (t ++ MemOp.ofEvents 0 fn pos es) :=
  h.zero (fun op ho => g_of ho) fun op ho b hb => by
    obtain ⟨e, he, h1⟩ := touch_of_ev ho
    rw [h1] at hb
    exact hes e he b hb
theorem PastE.mute (h : PastE Shun t) {g : Nat} (hg : g ≠ 0) {fn : FuncId} {pos : String} {es : Array Event} (hm : ∀ e ∈ es, e.mute = true) : PastE Shun (t ++ MemOp.ofEvents g fn pos es) :=
  h.other hg (fun op ho => g_of ho) fun op ho => by
    obtain ⟨e, he, h1⟩ := touch_of_ev ho
    rw [h1]
    exact touch_mute (hm e he)
end
/-- What S's steps list touches no shunned place, if none of S's is. -/
theorem evK_touch {S : Sc} {B : Nat} {e : Event} (h : EvK S B e) {b : Touch} (hb : (MemAct.ofEvent e).touch? = some b) : (∃ ad : Addr, b.loc = .cell ad ∧ (S.b ad.block ∨ S.k ad) ∧ ad.block < B) ∨ ∀ ad, b.loc ≠ .cell ad := by
  rcases h with h | ⟨a, hk, hlt, rfl⟩
  · obtain ⟨loc, wr, sy⟩ := e
    cases loc with
    | cell a =>
      left
      simp only [MemAct.ofEvent, MemAct.touch?, Option.some.injEq] at hb
      subst hb
      exact ⟨a, rfl, .inl (h.cell a rfl), h.low⟩
    | mark m =>
      right
      intro ad
      have hn := h.nosaid m rfl
      cases m <;> first | exact hn.elim | (simp [MemAct.ofEvent, MemAct.touch?] at hb)
    | obj r =>
      right
      intro ad
      cases wr <;> cases sy <;> simp [MemAct.ofEvent, MemAct.touch?] at hb <;> (try subst hb) <;> simp
    | output => right; intro ad; simp [MemAct.ofEvent, MemAct.touch?] at hb; subst hb; simp
    | goroutines => right; intro ad; simp [MemAct.ofEvent, MemAct.touch?] at hb; subst hb; simp
  · left
    simp only [MemAct.ofEvent, MemAct.touch?, Option.some.injEq] at hb
    subst hb
    exact ⟨a, rfl, .inr hk, hlt⟩
section
variable {P : Program} {Shun : Loc → Prop} {Post : Value → World → Prop}
/-- Goroutine 0 at its return: the run ends, though others leave still. -/
theorem end_beside {v : Value} {a : Goroutine} {w : World} (hrun : a.status = .running) (hend : ∀ d, stepG P true a (w.at d) = .ended (.done v) (w.at d) #[]) (hpost : ∀ d, Post v (w.at d)) :
    ∀ (M : Nat) (gs : Array Goroutine) (d0 : Nat) (sl : Option (Nat × Nat)) (t : Trace) (q : Nat → Nat), sumTo gs.size q ≤ M → gs[0]? = some a → Leavers P t gs q → PastE Shun t →
      ∃ N last o w' t', runNT P (N + 1) (crowd gs (w.at d0) sl) t = (.ended o w', t') ∧ runN P N (crowd gs (w.at d0) sl) = .next last ∧ step P last = .ended o w' ∧ Go.Conc.Good P Post last o w' t' := by
  intro M
  induction M using Nat.strongRecOn with
  | _ M ih =>
    intro gs d0 sl t q hM h0 hL hP
    have haw : ∀ g ∈ gs, awake g := by
      intro g hg
      obtain ⟨i, hi, rfl⟩ := Array.mem_iff_getElem.1 hg
      rcases Nat.eq_zero_or_pos i with rfl | hpos
      · have : gs[0] = a := by simpa [Array.getElem?_eq_getElem hi] using h0
        rw [this]; exact awake_of (.inl hrun)
      · exact awake_of ((hL.old i _ hpos (Array.getElem?_eq_getElem hi)).status.elim .inl fun x => .inr (.inr x))
    obtain ⟨i, g, d, sl', hi, hg, hpick⟩ := crowd_pick (P := P) (w := w.at d0) (sl := sl) haw ⟨0, a, h0, hrun⟩
    have hdd : (w.at d0).at d = w.at d := rfl
    rw [hdd] at hpick
    rcases Nat.eq_zero_or_pos i with rfl | hpos
    · obtain rfl : g = a := by rw [h0] at hi; exact (Option.some.inj hi).symm
      have hrunT := runT_many_ended (P := P) (sl := sl') (i := 0) hi (show stepG P (0 == 0) g (w.at d) = _ from hend d)
      have hst := hpick.trans hrunT
      rw [ofEvents_nil] at hst
      refine ⟨0, crowd gs (w.at d0) sl, .done v, w.at d, t ++ #[], by simp only [runNT, hst], rfl, ?_, v, rfl, hpost d, by rw [Array.append_empty]; exact hP.clean, by rw [Array.append_empty]; exact hP.over, ⟨fun x hx => ?_, rfl⟩, fun j x hx hj => ?_⟩
      · have := congrArg Prod.fst hst
        exact this
      · obtain ⟨j, hj⟩ := List.mem_iff_getElem?.1 hx
        rw [List.getElem?_drop] at hj
        exact ⟨_, (hL.old (1 + j) x (by omega) (by simpa [crowd] using hj)).leaves⟩
      · refine ⟨q j, ?_⟩
        rw [Array.append_empty]
        exact (hL.old j x (by omega) hx).hears _
    · have hq := hL.old i g hpos hi
      have hi0 : (i == 0) = false := by simp; omega
      have hlt : i < gs.size := (Array.getElem?_eq_some_iff.1 hi).1
      cases hqi : q i with
      | zero => rw [hqi] at hq; rw [hq.1] at hg; cases hg
      | succ k =>
        rw [hqi] at hq
        rcases hq with ⟨hf, _⟩ | ⟨_, g1, es1, hm, hstp, hq'⟩
        · rw [hf] at hg; cases hg
        have hrunT := runT_crowd_go (P := P) (sl := sl') (i := i) hi (by rw [hi0]; exact hstp (w.at d))
        have hsz : ((gs.map (woken P g g1 (w.at d))).setIfInBounds i g1).size = gs.size := by simp
        have hsum : sumTo gs.size (upd q i k) + (k + 1) = sumTo gs.size q + k := by
          have := sumTo_upd q k id hlt
          simpa [hqi] using this
        have hst := hpick.trans hrunT
        obtain ⟨N, last, o, w', t', hr, hr2, hs', hG⟩ := ih (sumTo gs.size (upd q i k)) (by omega) ((gs.map (woken P g g1 (w.at d))).setIfInBounds i g1) d sl' (t ++ MemOp.ofEvents i g.frame.fn g.frame.place es1) (upd q i k) (by rw [hsz]; exact Nat.le_refl _)
          (by
            have hne : i ≠ 0 := by omega
            rw [Array.getElem?_setIfInBounds_ne hne, Array.getElem?_map, h0]
            simp [woken_run hrun])
          ⟨fun j x hj hx => by
            by_cases hji : i = j
            · subst hji
              rw [Array.getElem?_setIfInBounds_self_of_lt (by simpa using hlt)] at hx
              obtain rfl := Option.some.inj hx
              rw [upd_same, Deaf_own]
              exact hq'
            · rw [Array.getElem?_setIfInBounds_ne hji, Array.getElem?_map] at hx
              obtain ⟨y, hy, rfl⟩ := Option.map_eq_some_iff.1 hx
              have hqj := hL.old j y hj hy
              rw [woken_quitsD hqj, upd_ne q k (Ne.symm hji), Deaf_other t hji _ (fun op hop => g_of hop)]
              exact hqj, fun j hj => by
            rw [Deaf_other t (g' := i) (by simp at hj; omega) _ (fun op hop => g_of hop)]
            exact hL.above j (by simpa using hj)⟩
          (hP.mute (by omega) hm)
        refine ⟨N + 1, last, o, w', t', ?_, ?_, hs', hG⟩
        · rw [show N + 1 + 1 = (N + 1) + 1 from rfl]
          simp only [runNT, hst] at hr ⊢
          exact hr
        · have h1 := congrArg Prod.fst hst
          have h2 : step P (crowd gs (w.at d0) sl) = .next (crowd ((gs.map (woken P g g1 (w.at d))).setIfInBounds i g1) (w.at d) sl') := h1
          simp only [runN, h2]
          exact hr2
end
end Go.Proofs.YtacimedkchjfnaaGreat
end

section
/-! What is asked of frames and worlds that are lifted. -/
namespace Go.Proofs.YtacimedkchjfnaaGreat
set_option linter.unusedSimpArgs false
set_option linter.unusedVariables false
open Go.Conc Go.RowKit
open Go.ConcN (sumTo upd)

/-- The slots of a frame, one by one. -/
def SlotsOk (S : Sc) (f : Nat) : Nat → List Value → Prop
  | _, [] => True
  | k, v :: l => (KV S v ∧ (S.d f k = false → Cl S v)) ∧ SlotsOk S f (k + 1) l
theorem slots_get {S : Sc} {f : Nat} : ∀ {l : List Value} {k : Nat}, SlotsOk S f k l → ∀ (i : Nat) v, l[i]? = some v → KV S v ∧ (S.d f (k + i) = false → Cl S v) := by
  intro l
  induction l with
  | nil => intro k _ i v h; simp at h
  | cons a l ih =>
    intro k h i v hv
    cases i with
    | zero => simp at hv; subst hv; exact h.1
    | succ i =>
      have := ih h.2 i v (by simpa using hv)
      rw [show k + 1 + i = k + (i + 1) by omega] at this
      exact this
theorem slot_cl {S : Sc} {f k : Nat} {v : Value} (h : Cl S v) : KV S v ∧ (S.d f k = false → Cl S v) := ⟨.cl _ h, fun _ => h⟩
theorem slot_k {S : Sc} {f k : Nat} {v : Value} (h : KV S v) (hd : S.d f k = true) : KV S v ∧ (S.d f k = false → Cl S v) := ⟨h, fun e => by rw [hd] at e; cases e⟩
theorem frOk_base {S : Sc} {P : Program} {f : Nat} {l : List Value} {todo : List Item} (hi : ∀ x ∈ todo, ItemOk S P f x) (ht : SlotsOk S f 0 l) (hf : ∃ fn, P.funcs[f]? = some fn) : FrOk S P ((base f).at ⟨l.toArray, []⟩ todo) where
  items := hi
  tmps := fun t v h => by
    have := slots_get ht t v (by simpa [Frame.at] using h)
    rw [Nat.zero_add] at this
    exact this
  defers := by simp [Frame.at]
  round := rfl
  mode := fun ch h => by simp [Frame.at, base] at h
  fn := hf
  kind := .inl rfl
/-- The one package variable and the handles: no names in them, no texts. -/
structure GlobOk (w : World) : Prop where
  two : 2 ≤ w.heap.size
  cl : ∀ b, b = 0 ∨ b = 1 → ∀ o, w.heap[b]? = some o → ∀ S, ClO S o
  txt : ∀ b, b = 0 ∨ b = 1 → ∀ i s, w.cell? ⟨b, i, none⟩ ≠ some (.string s)
theorem GlobOk.below {B : Nat} {w w' : World} (h : GlobOk w) (hb : Below B w w') (hB : 2 ≤ B) : GlobOk w' where
  two := Nat.le_trans h.two hb.size
  cl := fun b hb' o ho S => h.cl b hb' o (by rw [← hb.block b (by rcases hb' with rfl | rfl <;> omega)]; exact ho) S
  txt := fun b hb' i s e => h.txt b hb' i s (by rw [← hb.cell (p := ⟨b, i, none⟩) (by rcases hb' with rfl | rfl <;> simp <;> omega)]; exact e)
/-- The cells of a slice of texts. -/
def KOf (v : Value) (L : List ByteArray) (a : Addr) : Prop := ∃ g off c k s, v = .slice (some ⟨g, off, none⟩) L.length c ∧ L[k]? = some s ∧ a = ⟨g, off + k, none⟩
theorem add_at (g off k : Nat) : (⟨g, off, none⟩ : Addr).add k = ⟨g, off + k, none⟩ := by unfold Addr.add; split <;> simp_all
/-- A slice that came in, as the lift sees it. -/
theorem kv_of {S : Sc} {w : World} {v : Value} {L : List ByteArray} (h : StrAt w v L) (hk : ∀ a, KOf v L a → S.k a) : KV S v := by
  obtain ⟨A, c, rfl, _, h3⟩ := h
  rcases Nat.eq_zero_or_pos L.length with h0 | h0
  · cases A with
    | none => exact .cl _ (.slice0 _ _)
    | some a => exact .slice a _ c (fun i hi => by omega)
  · obtain ⟨g, off, rfl, _, _⟩ := h3 h0
    exact .slice _ _ c (fun i hi => by rw [add_at]; exact hk _ ⟨g, off, c, i, L[i], rfl, List.getElem?_eq_getElem hi, rfl⟩)
theorem kof_cell {w : World} {v : Value} {L : List ByteArray} (h : StrAt w v L) {a : Addr} (ha : KOf v L a) : ∃ s, s ∈ L ∧ w.cell? a = some (.string s) := by
  obtain ⟨g, off, c, k, s, rfl, hs, rfl⟩ := ha
  obtain ⟨A, c', e, _, h3⟩ := h
  have hl := (List.getElem?_eq_some_iff.1 hs).1
  obtain ⟨g', off', e', _, h6⟩ := h3 (by omega)
  subst e'
  injection e with e1 _ _
  injection e1 with e1
  injection e1 with e2 e3
  subst e2 e3
  exact ⟨s, List.mem_of_getElem? hs, h6 k s hs⟩
end Go.Proofs.YtacimedkchjfnaaGreat
end

section
/-! HashSpreads behind its shards, beside leavers, to its end. -/
namespace Go.Proofs.YtacimedkchjfnaaGreat
set_option linter.unusedSimpArgs false
set_option linter.unusedVariables false
set_option maxRecDepth 20000
open Go.Conc Go.RowKit
open Go.ConcN (sumTo upd)

def restB (P : Program) (L : List Nat) (N : List (List Nat)) (f : Nat) (ops : Array Oper) (rest : List Nat) : Bool := rest.all fun i => match ops[i]? with
  | some o => kopB P L N f o
  | none => true
theorem item_region {B : Nat → Prop} {K : Addr → Prop} {q : Bool} {L : List Nat} {N : List (List Nat)} (h0 : B 0) {f : Nat} {ops : Array Oper} {rest : List Nat} (h : restB Tryz.prog L N f ops rest = true) : ItemOk (scOf B K q L N) Tryz.prog f (.inRegion ops rest) := by
  intro i hi o ho
  have := List.all_eq_true.1 h i hi
  rw [ho] at this
  exact kop_ok kP h0 this
theorem item_code {B : Nat → Prop} {K : Addr → Prop} {q : Bool} {L : List Nat} {N : List (List Nat)} (h0 : B 0) {f : Nat} {c : Code} (h : codeB Tryz.prog L N f c = true) : ItemOk (scOf B K q L N) Tryz.prog f (.code c) := code_ok kP h0 h
theorem t92 : restB Tryz.prog LK NK 9 ops92 [3, 4] = true := by kernel_rfl
theorem t9b : codeB Tryz.prog LK NK 9 blk9 = true := by kernel_rfl
theorem t9e : codeB Tryz.prog LK NK 9 end9 = true := by kernel_rfl
theorem t33 : restB Tryz.prog LK NK 3 ops33 [3, 4, 5, 6, 7, 8, 9, 10] = true := by kernel_rfl
theorem items9 {B : Nat → Prop} {K : Addr → Prop} (h0 : B 0) : ∀ x ∈ [Item.inRegion ops92 [3, 4], .code blk9, .code end9], ItemOk (scOf B K false LK NK) Tryz.prog 9 x := by
  intro x hx
  simp only [List.mem_cons, List.not_mem_nil, or_false] at hx
  rcases hx with rfl | rfl | rfl
  · exact item_region h0 t92
  · exact item_code h0 t9b
  · exact item_code h0 t9e
theorem inits_none (f : Nat) (h : (Tryz.prog.inits.idxOf? f).isNone = true) : Tryz.prog.inits.idxOf? f = none := by simpa using h
/-- A frame that leaves, at the bottom: the run ends. -/
theorem ends_of {f : Nat} {fn : Func} {t : Tmp} {fr : Frame} {w0 w : World} {v : Value} (hf : Tryz.prog.funcs[f]? = some fn) (hr : fn.results = #[.tmp t]) (hi : Tryz.prog.inits.idxOf? f = none) (hfn : fr.fn = f) (h : fr.leaving Tryz.prog w0 (.returned v)) :
    stepG Tryz.prog true (G fr []) w = .ended (.done v) w #[] := by
  obtain ⟨hm, hd, hk, fn', hf', hres⟩ := h
  rw [hfn, hf] at hf'
  cases hf'
  have hv : fr.tmps.getD t undef = v := by
    have := results_tmp hr fr.tmps Tryz.prog w0
    rw [hres] at this
    cases this
    rfl
  have h1 := results_tmp hr fr.tmps Tryz.prog w
  have h2 := events_results_tmp (P := Tryz.prog) (w := w) hr fr.tmps #[]
  subst hfn
  have hi2 : ¬ 2 = fr.fn := fun e => by rw [← e] at hi; simp at hi
  simp [hi2, G, stepG, unwind, doReturn, hm, hd, hk, hf, h1, h2, hi, hv, seen, GStep.after]
/-- What is called: its leaving, in the lone run. -/
theorem leave_to {P : Program} {fr c : Frame} {cs : List Frame} {w : World} {v : Value} (h : fr.leaving P w (.returned v)) : Steps P (lone fr (c :: cs) w) (lone (c.finish v) cs w) := .one (step_leave_returned h)
theorem steps_runN {P : Program} {m m' : Machine} (h : Steps P m m') : ∃ N, runN P N m = .next m' := h
section
variable {w : World} {keys : Value} {L : List ByteArray} {nv n lg : Int} {m Ob C g : Nat} {gs : Array Goroutine} {sl : Option (Nat × Nat)} {t : Trace} {q : Nat → Nat} {Shun : Loc → Prop}
/-- The blocks of the last stretch. -/
def B3 (w : World) (Ob C : Nat) (b : Nat) : Prop := b = 0 ∨ b = 1 ∨ b = Ob ∨ b = C ∨ w.heap.size ≤ b
theorem cwk3 (hG : GlobOk w) (hK : StrAt w keys L) (hC : ∃ cs, w.heap[C]? = some (.cells cs 3) ∧ cs.size = L.length ∧ ∀ (k : Nat) s, L[k]? = some s → cs[k]? = some (.int .i64 (shardN s nv : Nat)))
    (hO : w.heap[Ob]? = some (.cells (List.replicate m (.slice none 0 0)).toArray 22)) : CWK (scOf (B3 w Ob C) (KOf keys L) false LK NK) w where
  objs := by
    rintro r o (rfl | rfl | rfl | rfl | hr) ho
    · exact hG.cl 0 (.inl rfl) o ho _
    · exact hG.cl 1 (.inr rfl) o ho _
    · rw [hO] at ho
      cases ho
      refine .cells _ _ _ fun x hx => ?_
      simp only [List.mem_toArray, List.mem_replicate] at hx
      rw [hx.2]
      exact .slice0 _ _
    · obtain ⟨cs, h1, h2, h3⟩ := hC
      rw [h1] at ho
      cases ho
      refine .cells _ _ _ fun x hx => ?_
      obtain ⟨k, hk⟩ := Array.getElem?_of_mem hx
      have hlt := (Array.getElem?_eq_some_iff.1 hk).1
      rw [h2] at hlt
      have := h3 k L[k] (List.getElem?_eq_getElem hlt)
      rw [hk] at this
      cases this
      exact .int _ _
    · rw [Array.getElem?_eq_none hr] at ho; cases ho
  fresh := fun r hr => .inr (.inr (.inr (.inr hr)))
  kc := by
    intro a ha
    obtain ⟨s, _, hs⟩ := kof_cell hK ha
    refine ⟨?_, s, hs⟩
    obtain ⟨g, off, c, k, s', rfl, hs', rfl⟩ := ha
    rintro (h | h | h | h | h)
    · exact hG.txt _ (.inl h) _ _ hs
    · exact hG.txt _ (.inr h) _ _ hs
    · have h : g = Ob := h
      subst h
      rw [dropCell hO] at hs
      simp only [List.getElem?_toArray, List.getElem?_replicate] at hs
      split at hs <;> cases hs
    · obtain ⟨cs, h1, h2, h3⟩ := hC
      have h : g = C := h
      subst h
      rw [dropCell h1] at hs
      have hlt := (Array.getElem?_eq_some_iff.1 hs).1
      rw [h2] at hlt
      have := h3 _ _ (List.getElem?_eq_getElem hlt)
      rw [hs] at this
      cases this
    · have := lt_of_cell hs
      omega
end
end Go.Proofs.YtacimedkchjfnaaGreat
end

section
/-! HashSpreads behind its shards, beside leavers, to its end: the law. -/
namespace Go.Proofs.YtacimedkchjfnaaGreat
set_option linter.unusedSimpArgs false
set_option linter.unusedVariables false
set_option maxRecDepth 20000
open Go.Conc Go.RowKit
open Go.ConcN (sumTo upd)

/-- A frame that leaves with v. -/
structure LeaveT (f : Nat) (t : Tmp) (fr : Frame) (v : Value) : Prop where
  mode : fr.mode = .returning
  defers : fr.defers = []
  kind : fr.kind = .normal
  fn : fr.fn = f
  val : fr.tmps.getD t undef = v
section
variable {f : Nat} {fn : Func} {t : Tmp} {fr : Frame} {v : Value}
theorem leaveT_of (hf : Tryz.prog.funcs[f]? = some fn) (hr : fn.results = #[.tmp t]) (hfn : fr.fn = f) {w0 : World} (h : fr.leaving Tryz.prog w0 (.returned v)) : LeaveT f t fr v := by
  obtain ⟨hm, hd, hk, fn', hf', hres⟩ := h
  rw [hfn, hf] at hf'
  cases hf'
  refine ⟨hm, hd, hk, hfn, ?_⟩
  have := results_tmp hr fr.tmps Tryz.prog w0
  rw [hres] at this
  cases this
  rfl
theorem leaveT_step (hf : Tryz.prog.funcs[f]? = some fn) (hr : fn.results = #[.tmp t]) (h : LeaveT f t fr v) (main : Bool) (c : Frame) (cs : List Frame) (w : World) : stepG Tryz.prog main (G fr (c :: cs)) w = .go (G (c.finish v) cs) w #[] := by
  obtain ⟨hm, hd, hk, hfn, hv⟩ := h
  have h1 := results_tmp hr fr.tmps Tryz.prog w
  have h2 := events_results_tmp (P := Tryz.prog) (w := w) hr fr.tmps #[]
  subst hfn
  simp [G, stepG, unwind, doReturn, hm, hd, hk, hf, h1, h2, hv, seen, GStep.after]
theorem leaveT_end (hf : Tryz.prog.funcs[f]? = some fn) (hr : fn.results = #[.tmp t]) (hi : Tryz.prog.inits.idxOf? f = none) (h : LeaveT f t fr v) (w : World) : stepG Tryz.prog true (G fr []) w = .ended (.done v) w #[] := by
  obtain ⟨hm, hd, hk, hfn, hv⟩ := h
  have h1 := results_tmp hr fr.tmps Tryz.prog w
  have h2 := events_results_tmp (P := Tryz.prog) (w := w) hr fr.tmps #[]
  subst hfn
  have hi2 : ¬ 2 = fr.fn := fun e => by rw [← e] at hi; simp at hi
  simp [hi2, G, stepG, unwind, doReturn, hm, hd, hk, hf, h1, h2, hv, seen, GStep.after]
end
/-- All but the block Ob stands; the tape aside. -/
structure GW (w w' : World) (row : Option Nat) : Prop where
  os : w'.os = w.os
  output : w'.output = w.output
  size : w.heap.size ≤ w'.heap.size
  block : ∀ k, k < w.heap.size → some k ≠ row → w'.heap[k]? = w.heap[k]?
theorem gw_of_grown {w w' : World} {τ : Nat → Question → Nat} {d : Nat} {row : Option Nat} (h : (re w τ 0).grownBy w' row) : GW w w' row := ⟨h.os, h.output, h.size, h.block⟩
theorem GW.at {w w' : World} {row : Option Nat} (h : GW w w' row) (d : Nat) : GW w (w'.at d) row := ⟨h.os, h.output, h.size, h.block⟩
/-- What a step of the last stretch does. -/
def DX (Shun : Loc → Prop) (w w' : World) (es : Array Event) : Prop := (∀ e ∈ es, ∀ b, (MemAct.ofEvent e).touch? = some b → ¬ Shun b.loc) ∧ w'.tape = w.tape
theorem dx_of {S : Sc} {Shun : Loc → Prop} (hSh : ∀ l, Shun l → ∃ a : Addr, l = .cell a ∧ ¬ S.b a.block ∧ ¬ S.k a) {w w' : World} {es : Array Event} (h : DIn S w w' es) : DX Shun w w' es := ⟨fun e he b hb hs => by
  obtain ⟨a, e1, e2, e3⟩ := hSh _ hs
  rcases evK_touch (h.1 e he) hb with ⟨ad, h1, h2, _⟩ | h1
  · rw [e1] at h1
    cases h1
    exact h2.elim e2 e3
  · exact h1 a e1, h.2.2⟩
theorem bw_bind {P : Program} {D : World → World → Array Event → Prop} {Stop₁ Stop₂ : Goroutine → World → Prop} {g : Goroutine} {w : World} (h : BW P D Stop₁ g w) (k : ∀ g w, Stop₁ g w → BW P D Stop₂ g w) : BW P D Stop₂ g w := by
  induction h with
  | @stop g w h => exact k g w (h w.drawn)
  | step hs g' w' es h hd _ ih => exact .step hs g' w' es h hd ih
/-- A step that lists nothing and leaves the world. -/
theorem bw_step {P : Program} {D : World → World → Array Event → Prop} {Stop : Goroutine → World → Prop} (hD : ∀ w, D w w #[]) {g g' : Goroutine} {w : World} (hs : g.status = .running) (h : ∀ w, stepG P true g w = .go g' w #[]) (k : ∀ d, BW P D Stop g' (w.at d)) : BW P D Stop g w :=
  .step hs (fun _ => g') (fun d => w.at d) (fun _ => #[]) (fun d => h _) (fun d => hD _) k
theorem fin9 (T : Array Value) (a : Tmp) (v : Value) {f : Nat} {ops : Array Oper} {i : Nat} {rest : List Nat} {k : List Item} (hd : (ops[i]?).bind (·.dst) = some a) : ((base f).at ⟨T, []⟩ (.inRegion ops (i :: rest) :: k)).finish v = (base f).at ⟨T.setIfInBounds a v, []⟩ (.inRegion ops rest :: k) := by
  rw [Frame.finish_at, hd]; rfl
section
variable {w : World} {keys : Value} {L : List ByteArray} {nv n lg : Int} {m Ob C g : Nat} {gs : Array Goroutine} {sl : Option (Nat × Nat)} {t : Trace} {q : Nat → Nat} {Shun : Loc → Prop}
theorem strAt_gw {w' : World} (hK : StrAt w keys L) (hg : GW w w' (some Ob)) (hne : ∀ a, KOf keys L a → a.block ≠ Ob) : StrAt w' keys L := by
  obtain ⟨A, c, rfl, h2, h3⟩ := hK
  refine ⟨A, c, rfl, h2, fun hl => ?_⟩
  obtain ⟨b, off, rfl, h4, h5⟩ := h3 hl
  refine ⟨b, off, rfl, Nat.lt_of_lt_of_le h4 hg.size, fun j s hj => ?_⟩
  rw [← h5 j s hj]
  exact World.cell?_of_block (hg.block b h4 (fun e => hne ⟨b, off + j, none⟩ ⟨b, off, c, j, s, rfl, hj, rfl⟩ (by cases e; rfl)))
theorem rows_read {w' : World} {base : Nat} {vs : List Value} (h : RowsAt w' base Ob m vs (spreadF L nv)) (hm : m = clipI nv) : RowsR w' (.slice (some ⟨Ob, 0, none⟩) m m) (spreadRows L nv) := by
  have hb := clipI_bounds nv
  refine ⟨some ⟨Ob, 0, none⟩, m, vs, by rw [spreadRows_len, hm], by rw [spreadRows_len]; omega, by rw [spreadRows_len, h.len, hm], fun _ => ⟨Ob, 0, rfl, (Array.getElem?_eq_some_iff.1 h.out).1, fun j u hu => ?_⟩, fun j u l hu hl => ?_⟩
  · rw [Nat.zero_add, dropCell h.out]
    simpa using hu
  · rw [spreadRows_get hl]
    have := h.own j u hu
    exact StrAt.own this.own
set_option maxHeartbeats 4000000 in
theorem slots9 {S : Sc} (hk : KV S keys) (hO : S.b Ob) (hC : S.b C) (hd : S.d = dK) : SlotsOk S 9 0 (T9 keys nv m Ob C L.length).toList := by
  have hk' : ∀ k, dK 9 k = true → KV S keys ∧ (S.d 9 k = false → Cl S keys) := fun k h => slot_k hk (by rw [hd]; exact h)
  have u : ∀ k, KV S undef ∧ (S.d 9 k = false → Cl S undef) := fun k => slot_cl cl_undef
  refine ⟨hk' 0 (by decide), slot_cl (.int _ _), u _, u _, slot_cl (.slice0 _ _), slot_cl (.slice _ _ _ hO), u _, u _, slot_cl (.int _ _), slot_cl (.int _ _), slot_cl (.slice _ _ _ hO), hk' 11 (by decide), slot_cl (.int _ _), slot_cl (.slice _ _ _ hC),
    u _, u _, u _, u _, u _, u _, u _, u _, u _, u _, u _, u _, u _, u _, u _, u _, u _, u _, u _, u _, u _, trivial⟩
theorem slots3 {S : Sc} {v : Value} (hk : KV S keys) (hv : Cl S v) (hd : S.d = dK) : SlotsOk S 3 0 (T3 keys nv n lg v).toList := by
  have hk' : ∀ k, dK 3 k = true → KV S keys ∧ (S.d 3 k = false → Cl S keys) := fun k h => slot_k hk (by rw [hd]; exact h)
  have u : ∀ k, KV S undef ∧ (S.d 3 k = false → Cl S undef) := fun k => slot_cl cl_undef
  exact ⟨hk' 0 (by decide), slot_cl (.int _ _), u _, u _, slot_cl (.bool _), hk' 5 (by decide), slot_cl (.int _ _), slot_cl (.bool _), slot_cl (.bool _), hk' 9 (by decide), slot_cl (.int _ _), slot_cl (.bool _), slot_cl (.bool _), u _, hk' 14 (by decide), slot_cl (.int _ _), slot_cl hv,
    u _, u _, u _, u _, u _, u _, u _, trivial⟩
end
end Go.Proofs.YtacimedkchjfnaaGreat
end
