import Derived.Test.YtapclgjelekijaaA9
import Derived.RangeFuncBox
import Derived.RangeFuncLeaves
import Derived.Shelf.Abstract
import Derived.OwnWalkIn
import Derived.TacticsInMore
import Derived.LoopNIn
import Derived.LoopIn
import Derived.Maps.AppendAt
/-! The table's keys: the iterator over the places, in order. -/
namespace Go.Proofs.Ytapclgjelekijaa
open Go.RowKit Go.Shelf

attribute [local go_sem] Oper.semAt_some

theorem RingAt.belowN {w w' : World} {lo b n₀ : Nat} {R : Ring} {sv fv wv : Value} (H : RingAt w lo b R sv fv wv) (hf : ∀ k, Foot b sv fv wv k → k < n₀) (hb : Below n₀ w w') : RingAt w' lo b R sv fv wv := H.kept fun k hk => hb.block k (hf k hk)

/-- What a round keeps: all below n₀, and the box that the iterator has captured. -/
structure KpB (n₀ Bn : Nat) (W W' : World) : Prop where
  b : Below n₀ W W'
  box : W'.heap[Bn]? = W.heap[Bn]?
theorem KpB.refl (n₀ Bn : Nat) (W : World) : KpB n₀ Bn W W := ⟨Below.refl _ _, rfl⟩
theorem KpB.trans {n₀ Bn : Nat} {A B C : World} (h : KpB n₀ Bn A B) (k : KpB n₀ Bn B C) : KpB n₀ Bn A C := ⟨h.b.trans k.b, k.box.trans h.box⟩
theorem KpB.put {n₀ Bn : Nat} {w : World} (hn : n₀ ≤ w.heap.size) (hB : Bn < w.heap.size) (W : World) (l : Nat) (o o' : Obj) (hl : w.heap.size ≤ l) (h : W.heap[l]? = some o) (ho : o.isCells = false) (hw : o.isWalk = false) : KpB n₀ Bn W (W.putObj l o') :=
  ⟨belowK_b hn W l o o' hl h ho hw, (grownBy_putObj' W l o').block Bn (by have := (Array.getElem?_eq_some_iff.1 h).1; omega) (fun e => by cases e; omega)⟩

/-- How many places are still to come. -/
def toCome (o : List Nat) (v : Value) : Nat := if intOf v < 0 then 0 else o.length - o.idxOf (intOf v).toNat
theorem toCome_cons {o pre rest : List Nat} {k : Nat} (hnd : o.Nodup) (ho : o = pre ++ k :: rest) : toCome o (.int .i64 (k : Int)) = rest.length + 1 := by
  unfold toCome
  have hi : intOf (.int .i64 (k : Int)) = (k : Int) := rfl
  rw [hi, if_neg (by omega), Int.toNat_natCast]
  have hk : k ∉ pre := by
    intro h
    rw [ho, List.nodup_append] at hnd
    exact hnd.2.2 k h k (by simp) rfl
  rw [ho, List.idxOf_append, if_neg hk, List.idxOf_cons_self]
  simp
theorem toCome_nil (o : List Nat) : toCome o (.int .i64 (-1)) = 0 := by simp [toCome, intOf]

set_option maxRecDepth 100000 in
set_option maxHeartbeats 4000000 in
theorem all1_in (F : Fence) (n : Nat) (h38 : F.fn 38) (hro : F.round = none) (hn : 1 ≤ n) (l Bn n₀ lo b : Nat) (R : Ring) (sv fv wv : Value) (o : List Nat) (P : Rep R o) (hf : ∀ k, Foot b sv fv wv k → k < n₀)
    (J Jx : List { k : Nat // k < R.slots.length } → World → Prop)
    (hY : ∀ pre x W, J pre W → pre.length < o.length → YieldAt F (n - 1) Try.prog l #[.int .i64 ((x.1 : Nat) : Int)] W fun e W' =>
      (e = .returned (.bool true) ∧ J (pre ++ [x]) W' ∧ KpB n₀ Bn W W') ∨ (e = .returned (.bool false) ∧ Jx (pre ++ [x]) W'))
    (W : World) (hBn : W.cell? ⟨Bn, 0, none⟩ = some (.pointer (some ⟨b, 0, none⟩))) (H : RingAt W lo b R sv fv wv) (h0 : J [] W) :
    CallsIn F n Try.prog 38 #[.func (.yield l) #[] #[], .pointer (some ⟨Bn, 0, none⟩)] W fun e W' => (∃ v, e = .returned v) ∧
      ((∃ ys, ys.map (·.1) = o ∧ J ys W') ∨ (∃ pre : List { k : Nat // k < R.slots.length }, pre.map (·.1) <+: o ∧ Jx pre W')) := by
  have h4 : W.cell? ⟨b, 4, none⟩ = some (.int .i64 (lk R.first)) := H.cell 4
  refine callsIn_of_wp Try.func38 rfl h38 ?_ hro
  simp only [Try.ntmps38, List.size_toArray, List.length_cons, List.length_nil, Nat.reduceAdd, Nat.reduceSub, Array.replicate_succ, Array.replicate_zero, List.push_toArray, List.append_toArray, List.nil_append, List.cons_append]
  gi_wp2
  gi_loopw [3] (fun p wr => ∃ (pre : List { k : Nat // k < R.slots.length }) (rest : List Nat), p = .int .i64 (lk rest.head?) ∧ Asd (o = pre.map (·.1) ++ rest) ∧ J pre wr ∧ KpB n₀ Bn W wr)
    (fun p wr => toCome o p)
  case atStart =>
    exact ⟨[], o, by rw [P.lnk.fst], ⟨by simp⟩, h0, KpB.refl _ _ _⟩
  case round =>
    obtain ⟨pre, rest, rfl, hx, hJs, hB⟩ := hrel
    have Hr := H.belowN hf hB.b
    have hBn' : wr.cell? ⟨Bn, 0, none⟩ = some (.pointer (some ⟨b, 0, none⟩)) := (World.cell?_of_block (a := ⟨Bn, 0, none⟩) hB.box).trans hBn
    clear h4 hBn
    cases rest with
    | nil =>
      have e0 : lk none = -1 := rfl
      gi_wp2
      go_end0
      exact ⟨⟨_, rfl⟩, .inl ⟨pre, by simpa using hx.out.symm, hJs⟩⟩
    | cons k rest =>
      have hko : k ∈ o := by rw [hx.out]; simp
      have hkl := P.lnk.lt k hko
      have hkb : ((k : Int) != -1) = true := by rw [bne_iff_ne]; omega
      obtain ⟨s0, hs0⟩ : ∃ s, R.slots[k]? = some s := ⟨_, List.getElem?_eq_getElem hkl⟩
      obtain ⟨_, hnext⟩ := P.lnk.at_ (pre.map (·.1)) k rest s0 hx.out hs0
      have HS := Asd.mk hs0
      have HNX := Asd.mk hnext
      clear hs0 hnext
      have e1 : lk (some k) = (k : Int) := rfl
      have hlen : pre.length < o.length := by rw [hx.out]; simp
      obtain ⟨fn, tmps, assign, body, hy, hR⟩ := hY pre ⟨k, hkl⟩ wr hJs hlen
      dsimp only at hy hR
      gi_wp2
      refine hR.mono ?_
      rintro e W3 (⟨rfl, hJ3, hk3⟩ | ⟨rfl, hJx3⟩)
      · have H3 := Hr.belowN hf hk3.b
        have hsl := P.slots_le
        obtain ⟨g, c, rfl⟩ := H3.form (by omega)
        have c1 : W3.cell? ⟨b, 1, none⟩ = some (.slice (some ⟨g, 0, none⟩) R.slots.length c) := H3.cell 1
        have cB : W3.cell? ⟨Bn, 0, none⟩ = some (.pointer (some ⟨b, 0, none⟩)) := (World.cell?_of_block (a := ⟨Bn, 0, none⟩) hk3.box).trans hBn'
        obtain ⟨_, _, _, d3⟩ := H3.slot HS.out
        rw [HNX.out] at d3
        gi_wp2
        go_roundw
        case rel => exact ⟨pre ++ [⟨k, hkl⟩], rest, rfl, ⟨by rw [hx.out]; simp⟩, hJ3, hB.trans hk3⟩
        case measure =>
          clear e1
          show toCome o _ < toCome o (.int .i64 (k : Int))
          rw [toCome_cons P.lnk.nd hx.out]
          cases rest with
          | nil => show toCome o (.int .i64 (-1)) < _; rw [toCome_nil]; omega
          | cons k2 r2 =>
            show toCome o (.int .i64 (k2 : Int)) < _
            rw [toCome_cons (pre := pre.map (·.1) ++ [k]) (rest := r2) P.lnk.nd (by rw [hx.out]; simp)]
            simp
      · gi_wp2
        refine bodyPost_ret (results_none rfl _ _ _) rfl ?_
        exact ⟨⟨_, rfl⟩, .inr ⟨pre ++ [⟨k, hkl⟩], ⟨rest, by rw [hx.out]; simp⟩, hJx3⟩⟩

set_option maxHeartbeats 1000000 in
theorem all_in (F : Fence) (n : Nat) (h29 : F.fn 29) (hro : F.round = none) (p0 : Option Addr) (w : World) :
    CallsIn F n Try.prog 29 #[.pointer p0] w fun e w' => e = .returned (.func (.func 38) #[] #[.pointer (some ⟨w.heap.size, 0, none⟩)]) ∧ w' = w.alloc (.cells #[.pointer p0] 78) := by
  refine callsIn_of_wp Try.func29 rfl h29 ?_ hro
  simp only [Try.ntmps29, List.size_toArray, List.length_cons, List.length_nil, Nat.reduceAdd, Nat.reduceSub, Array.replicate_succ, Array.replicate_zero, List.push_toArray, List.append_toArray, List.nil_append, List.cons_append]
  gi_wp2
  go_ret
  exact ⟨rfl, rfl⟩

theorem all_stops (F : Fence) (n : Nat) (h38 : F.fn 38) (hro : F.round = none) (hn : 1 ≤ n) (Bn n₀ lo b : Nat) (R : Ring) (sv fv wv : Value) (o : List Nat) (P : Rep R o) (hf : ∀ k, Foot b sv fv wv k → k < n₀) (w : World) (hBn : Bn < w.heap.size)
    (hc : w.cell? ⟨Bn, 0, none⟩ = some (.pointer (some ⟨b, 0, none⟩))) (H : RingAt w lo b R sv fv wv) :
    SeqStopsK F n Try.prog 38 #[.pointer (some ⟨Bn, 0, none⟩)] (fun x : { k : Nat // k < R.slots.length } => #[Value.int .i64 ((x.1 : Nat) : Int)]) (KpB n₀ Bn) (fun ys => ys.map (·.1) = o) (fun pre => pre.map (·.1) <+: o) o.length w := fun l J Jx W hW _ _ hY h0 =>
  all1_in F n h38 hro hn l Bn n₀ lo b R sv fv wv o P hf J Jx hY W ((hW.cell (p := ⟨Bn, 0, none⟩) hBn).trans hc) (H.below hW) h0
end Go.Proofs.Ytapclgjelekijaa
