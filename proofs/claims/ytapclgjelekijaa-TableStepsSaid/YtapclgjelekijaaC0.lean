import Derived.Test.YtapclgjelekijaaB5
import Derived.ProofKit
import Derived.SizedLaws
import Derived.Deep.Slices
import Derived.Deep.Strs
/-! A slice of acts that came in. -/
namespace Go.Proofs.Ytapclgjelekijaa
open Go.RowKit Go.Deep Go.ChangeShapes Go.WideShapes
set_option linter.unusedSimpArgs false
set_option linter.unusedVariables false

instance : Inhabited Act3 := ⟨⟨0, ⟨#[]⟩, 0⟩⟩

/-- A slice that reads as acts. -/
def DoAt (w : World) (v : Value) (l : List Act3) : Prop :=
  ∃ A c, v = .slice A l.length c ∧ l.length ≤ 140737488355328 ∧ (0 < l.length → ∃ b off, A = some ⟨b, off, none⟩ ∧ b < w.heap.size ∧ ∀ (j : Nat) (d : Act3), l[j]? = some d →
    w.cell? ⟨b, off + j * 3, none⟩ = some (.int .i64 d.kind) ∧ w.cell? ⟨b, off + j * 3 + 1, none⟩ = some (.string d.key) ∧ w.cell? ⟨b, off + j * 3 + 2, none⟩ = some (.int .i64 d.n))
theorem DoAt.below {w w' : World} {v : Value} {l : List Act3} (h : DoAt w v l) (hb : Below w.heap.size w w') : DoAt w' v l := by
  obtain ⟨A, c, h1, h2, h3⟩ := h
  refine ⟨A, c, h1, h2, fun hl => ?_⟩
  obtain ⟨b, off, h4, h5, h6⟩ := h3 hl
  refine ⟨b, off, h4, Nat.lt_of_lt_of_le h5 hb.size, fun j d hj => ?_⟩
  obtain ⟨c0, c1, c2⟩ := h6 j d hj
  exact ⟨(hb.cell (p := ⟨b, _, none⟩) h5).trans c0, (hb.cell (p := ⟨b, _, none⟩) h5).trans c1, (hb.cell (p := ⟨b, _, none⟩) h5).trans c2⟩

theorem weights_all {H : Type} {P : Program} {e : TypeId} : ∀ {l : List (DataW H)} {d : DataW H}, d ∈ l → ∀ n ∈ d.weights P e, n ∈ DataW.weightsAll P e l
  | d0 :: l, d, hd, n, hn => by
    simp only [DataW.weightsAll, List.mem_append]
    rcases List.mem_cons.1 hd with rfl | hd
    · exact Or.inl hn
    · exact Or.inr (weights_all hd n hn)
  | [], _, hd, _, _ => by simp at hd

theorem cells3 : Try.prog.cellsOf 30 = 3 := by kernel_rfl
theorem cellsI : Try.prog.cellsOf 3 = 1 := by kernel_rfl
theorem cellsS : Try.prog.cellsOf 9 = 1 := by kernel_rfl
theorem bytes30 : Try.prog.bytesOf 30 = 32 := by kernel_rfl

theorem open_dos {H : Type} {enc : TypeId × Value → H} {W : World} {v : Value} {d : DataW H} {p : List MemPlace} {ts : List TypeId} {ds : List (DataW H)} {j : Nat} {base : Nat}
    (hok : Value.okWide Try.prog W .any base 22 v) (h : DataW.Trod enc Try.prog W 0 (fun _ => true) true 22 v d p) (hsz : (DataW.weightsEach Try.prog ts ds).all (· ≤ reachBytes) = true) (hj : ts[j]? = some 22) (hd : ds[j]? = some d) :
    ∃ l, DoAt W v l ∧ (∀ d, d ∈ l → d.key.size ≤ 140737488351232) := by
  obtain ⟨A, len, cap, rfl⟩ := okWide_slice Try.underlying22 hok
  obtain ⟨fuel, hf⟩ := h
  rcases open_slice Try.underlying22 hf with ⟨hcs, hx⟩ | ⟨a, len', cap', m, n, D, Pl, hcs, hb, hl, hm, hmm, hx, hel⟩
  · simp [Value.cells] at hcs
    obtain ⟨rfl, rfl, rfl⟩ := hcs
    exact ⟨[], ⟨none, 0, rfl, by simp, fun h => by simp at h⟩, fun d hd => by simp at hd⟩
  · simp [Value.cells] at hcs
    obtain ⟨rfl, rfl, rfl⟩ := hcs
    simp only [if_true] at hmm
    subst hmm
    simp only [Prod.mk.injEq] at hx
    obtain ⟨rfl, rfl⟩ := hx
    have hb1 := sized_slice hsz hj hd Try.underlying22
    rw [bytes30] at hb1
    simp only [List.length_map, List.length_range] at hb1
    have hrb : reachBytes = 140737488351232 := rfl
    have each : ∀ i, i < len → ∃ q : Act3, (W.cell? (a.add (i * 3)) = some (.int .i64 q.kind) ∧ W.cell? (a.add (i * 3 + 1)) = some (.string q.key) ∧ W.cell? (a.add (i * 3 + 2)) = some (.int .i64 q.n)) ∧ q.key.size ≤ 140737488351232 := by
      intro i hi
      obtain ⟨cs', h1, h2⟩ := hel i (by omega)
      rw [cells3] at h1
      obtain ⟨_, hlen, hcell⟩ := World.cells?_some h1
      obtain ⟨y0, y1, y2, n', hy, _, g0, g1, g2⟩ := trod_struct3 Try.underlying30 h2
      match cs', hlen with
      | [c0, c1, c2], _ =>
        have e0 := hcell 0 (by omega)
        have e1 := hcell 1 (by omega)
        have e2 := hcell 2 (by omega)
        rw [add_add] at e0 e1 e2
        simp only [cellsI, cellsS, List.drop_succ_cons, List.drop_zero, List.take_succ_cons, List.take_zero] at g0 g1 g2
        obtain ⟨x0, q0, _, _⟩ := DataW.trod_int Try.underlying3 g0
        obtain ⟨x1, q1, qq1, _⟩ := DataW.trod_string Try.underlying9 g1
        obtain ⟨x2, q2, _, _⟩ := DataW.trod_int Try.underlying3 g2
        simp only [List.cons.injEq, and_true] at q0 q1 q2
        subst q0 q1 q2
        refine ⟨⟨x0, x1, x2⟩, ⟨by simpa using e0, by simpa using e1, by simpa using e2⟩, ?_⟩
        have hDi : D i ∈ (List.range len).map D := List.mem_map.2 ⟨i, List.mem_range.2 hi, rfl⟩
        have hw : x1.data.toList.length ∈ (D i).weights Try.prog 30 := by
          have hD : D i = .agg [y0.1, y1.1, y2.1] := by simpa using congrArg Prod.fst hy
          rw [hD, qq1]
          unfold DataW.weights
          rw [Try.underlying30]
          simp [DataW.weightsEach, DataW.weights]
        have hw2 := weights_all hDi _ hw
        have hw3 : x1.data.toList.length ∈ DataW.weightsEach Try.prog ts ds := DataW.weights_mem_each hj hd _ (by
          unfold DataW.weights
          rw [Try.underlying22]
          simp only [List.mem_cons, List.mem_append]
          exact .inr (.inl hw2))
        have := List.all_eq_true.1 hsz _ hw3
        simp only [decide_eq_true_eq] at this
        rw [Array.length_toList] at this
        exact this
    obtain ⟨q, hq⟩ := choose_lt each
    refine ⟨(List.range len).map q, ⟨some a, m, by simp, by simp; omega, fun hpos => ?_⟩, fun d hd => ?_⟩
    · simp at hpos
      have h0 := (hq 0 hpos).1.1
      rw [Nat.zero_mul] at h0
      have ha : a.add 0 = a := by simp [Addr.add]
      rw [ha] at h0
      have hsp : a.spot = none := by
        unfold World.cell? at h0
        split at h0
        · split at h0
          · simp at h0
          · rename_i hns; simpa using hns
        · simp at h0
      obtain ⟨b, off, spot⟩ := a
      simp only at hsp
      subst hsp
      refine ⟨b, off, rfl, World.block_lt_of_cell? W _ h0, fun j' d' hd' => ?_⟩
      have hjl := (List.getElem?_eq_some_iff.1 hd').1
      simp at hjl
      rw [List.getElem?_map, List.getElem?_range hjl] at hd'
      simp at hd'
      subst hd'
      obtain ⟨c0, c1, c2⟩ := (hq j' hjl).1
      rw [add_plain] at c0 c1 c2
      exact ⟨c0, c1, c2⟩
    · obtain ⟨i, hi, rfl⟩ := List.mem_map.1 hd
      exact (hq i (List.mem_range.1 hi)).2
end Go.Proofs.Ytapclgjelekijaa
