import Derived.Test.YtapclgjelekijaaProg
import Derived.Test.YtapclgjelekijaaM2
import Derived.Below
import Derived.Laws.OwnMore
import Derived.Maps.AppendAt
import Derived.WalkKit
import Derived.KernelRfl
import Derived.OneCell
import Derived.Deep.Draws
/-! The table in memory: a ring behind a pointer, and its frame. -/
namespace Go.Proofs.Ytapclgjelekijaa
open Go.RowKit

/-- A fact set aside from the walk. -/
structure Asd (p : Prop) : Prop where mk :: (out : p)

def slotCells (s : Slot) : List Value := [.string s.key, .int .i64 s.v, .int .i64 (lk s.prev), .int .i64 (lk s.next)]
def rowOf (S : List Slot) : List Value := S.flatMap slotCells
def nats (l : List Nat) : List Value := l.map fun (n : Nat) => Value.int .i64 (n : Int)
theorem nats_length (l : List Nat) : (nats l).length = l.length := by simp [nats]
theorem nats_get (l : List Nat) (i : Nat) : (nats l)[i]? = (l[i]?).map fun (n : Nat) => Value.int .i64 (n : Int) := by simp [nats]
theorem rowOf_length (S : List Slot) : (rowOf S).length = S.length * 4 := by
  unfold rowOf
  induction S with
  | nil => rfl
  | cons s S ih => simp only [List.flatMap_cons, List.length_append, ih, List.length_cons]; simp [slotCells]; omega
theorem rowOf_append (S T : List Slot) : rowOf (S ++ T) = rowOf S ++ rowOf T := by simp [rowOf]
theorem rowOf_split {S : List Slot} {k : Nat} {s : Slot} (h : S[k]? = some s) : S = S.take k ++ s :: S.drop (k + 1) := by
  have hk := (List.getElem?_eq_some_iff.1 h)
  obtain ⟨hl, rfl⟩ := hk
  rw [List.getElem_cons_drop, List.take_append_drop]
theorem rowOf_get {S : List Slot} {k : Nat} {s : Slot} (h : S[k]? = some s) (j : Nat) (hj : j < 4) : (rowOf S)[k * 4 + j]? = (slotCells s)[j]? := by
  have hk := (List.getElem?_eq_some_iff.1 h).1
  rw [rowOf_split h, rowOf_append]
  have hl : (rowOf (S.take k)).length = k * 4 := by rw [rowOf_length, List.length_take, Nat.min_eq_left (by omega)]
  rw [List.getElem?_append_right (by omega), hl, show k * 4 + j - k * 4 = j by omega]
  show (slotCells s ++ rowOf _)[j]? = _
  rw [List.getElem?_append_left (by simp [slotCells]; exact hj)]
theorem rowOf_set {S : List Slot} {k : Nat} {s s' : Slot} (h : S[k]? = some s) (j : Nat) (hj : j < 4) {u : Value} (hu : (slotCells s).set j u = slotCells s') : (rowOf S).set (k * 4 + j) u = rowOf (S.set k s') := by
  have hk := (List.getElem?_eq_some_iff.1 h).1
  have hl : (rowOf (S.take k)).length = k * 4 := by rw [rowOf_length, List.length_take, Nat.min_eq_left (by omega)]
  have hS := rowOf_split h
  have h1 : (S.take k).length = k := by rw [List.length_take, Nat.min_eq_left (by omega)]
  have h2 : S.set k s' = S.take k ++ s' :: S.drop (k + 1) := by
    conv => lhs; rw [hS]
    rw [List.set_append_right _ _ (by omega), h1, Nat.sub_self, List.set_cons_zero]
  rw [h2]
  conv => lhs; rw [hS]
  rw [rowOf_append, List.set_append_right _ _ (by omega), hl, show k * 4 + j - k * 4 = j by omega, rowOf_append]
  congr 1
  show (slotCells s ++ rowOf _).set j u = slotCells s' ++ rowOf _
  rw [List.set_append_left _ _ (by simp [slotCells]; exact hj), hu]

/-- A ring behind a pointer: its block, and its three rows, all in blocks from lo on. -/
structure RingAt (w : World) (lo b : Nat) (R : Ring) (sv fv wv : Value) : Prop where
  blk : w.heap[b]? = some (.cells #[.int .i64 (R.room : Int), sv, fv, wv, .int .i64 (lk R.first), .int .i64 (lk R.last)] 65 (0, 0))
  lob : lo ≤ b
  s : w.ownsRow lo 68 4 sv R.slots.length (rowOf R.slots)
  f : w.ownsRow lo 3 1 fv R.free.length (nats R.free)
  y : w.ownsRow lo 3 1 wv R.ways.length (nats R.ways)
  fy : ∀ k, fv.ownBlock = some k → wv.ownBlock ≠ some k

def Foot (b : Nat) (sv fv wv : Value) (k : Nat) : Prop := k = b ∨ sv.ownBlock = some k ∨ fv.ownBlock = some k ∨ wv.ownBlock = some k

/-- Nothing has turned but in F; new blocks may be there. -/
structure Fr (F : Nat → Prop) (w w' : World) : Prop where
  os : w'.os = w.os
  tape : w'.tape = w.tape
  output : w'.output = w.output
  size : w.heap.size ≤ w'.heap.size
  block : ∀ k, k < w.heap.size → ¬ F k → w'.heap[k]? = w.heap[k]?

theorem Fr.refl (F : Nat → Prop) (w : World) : Fr F w w := ⟨rfl, rfl, rfl, Nat.le_refl _, fun _ _ _ => rfl⟩
theorem Fr.trans {F G : Nat → Prop} {w w1 w2 : World} (h : Fr F w w1) (k : Fr G w1 w2) (hG : ∀ i, G i → F i ∨ w.heap.size ≤ i) : Fr F w w2 :=
  ⟨k.os.trans h.os, k.tape.trans h.tape, k.output.trans h.output, Nat.le_trans h.size k.size, fun i hi hf =>
    (k.block i (Nat.lt_of_lt_of_le hi h.size) (fun g => by rcases hG i g with g | g; exact hf g; omega)).trans (h.block i hi hf)⟩
theorem Fr.mono {F G : Nat → Prop} {w w' : World} (h : Fr F w w') (hG : ∀ i, i < w.heap.size → F i → G i) : Fr G w w' :=
  ⟨h.os, h.tape, h.output, h.size, fun i hi hg => h.block i hi (fun f => hg (hG i hi f))⟩
theorem Fr.drew {F : Nat → Prop} {w w' : World} (h : Fr F w w') : Fr F w w'.drew := ⟨h.os, h.tape, h.output, h.size, h.block⟩
theorem Fr.drewN {F : Nat → Prop} {w w' : World} (h : Fr F w w') (n : Nat) : Fr F w (w'.drewN n) := ⟨h.os, h.tape, h.output, h.size, h.block⟩
theorem Fr.alloc {F : Nat → Prop} {w w' : World} (h : Fr F w w') (o : Obj) : Fr F w (w'.alloc o) :=
  ⟨h.os, h.tape, h.output, by have := h.size; simp; omega, fun i hi hf => by rw [Below.heap_alloc _ _ _ (Nat.lt_of_lt_of_le hi h.size)]; exact h.block i hi hf⟩
theorem Fr.setCell {F : Nat → Prop} {w w' : World} (h : Fr F w w') {p : Addr} (hp : F p.block ∨ w.heap.size ≤ p.block) (u : Value) : Fr F w (w'.setCell p u) :=
  ⟨h.os, h.tape, h.output, by have := h.size; simpa [World.setCell] using this, fun i hi hf => by
    rw [Below.heap_setCell _ _ _ _ (fun e => by subst e; rcases hp with hp | hp; exact hf hp; omega)]; exact h.block i hi hf⟩
theorem Fr.grown {F : Nat → Prop} {w w' w'' : World} {row : Option Nat} (h : Fr F w w') (hg : w'.grownBy w'' row) (hr : ∀ k, row = some k → F k ∨ w.heap.size ≤ k) : Fr F w w'' :=
  ⟨hg.os.trans h.os, hg.tape.trans h.tape, hg.output.trans h.output, Nat.le_trans h.size hg.size, fun i hi hf =>
    (hg.block i (Nat.lt_of_lt_of_le hi h.size) (fun e => by rcases hr i e.symm with g | g; exact hf g; omega)).trans (h.block i hi hf)⟩
theorem Fr.below {F : Nat → Prop} {w w' w'' : World} (h : Fr F w w') (hb : Below w'.heap.size w' w'') : Fr F w w'' :=
  ⟨hb.os.trans h.os, hb.tape.trans h.tape, hb.output.trans h.output, Nat.le_trans h.size hb.size, fun i hi hf =>
    (hb.block i (Nat.lt_of_lt_of_le hi h.size)).trans (h.block i hi hf)⟩
theorem Fr.below_of {F : Nat → Prop} {w w' : World} (h : Fr F w w') {B : Nat} (hB : B ≤ w.heap.size) (hF : ∀ k, F k → B ≤ k) : Below B w w' :=
  ⟨h.os, h.tape, h.output, h.size, fun k hk => h.block k (by omega) (fun f => by have := hF k f; omega)⟩

section
variable {w : World} {lo b : Nat} {R : Ring} {sv fv wv : Value}
theorem RingAt.cell (H : RingAt w lo b R sv fv wv) (i : Nat) : w.cell? ⟨b, i, none⟩ = #[.int .i64 (R.room : Int), sv, fv, wv, .int .i64 (lk R.first), .int .i64 (lk R.last)][i]? := cell_of_row w b i _ _ _ H.blk
theorem RingAt.frozen (H : RingAt w lo b R sv fv wv) (i : Nat) : w.frozen? ⟨b, i, none⟩ = false := by simp [World.frozen?, H.blk]
theorem RingAt.foot_lt (H : RingAt w lo b R sv fv wv) (k : Nat) (hk : Foot b sv fv wv k) : lo ≤ k ∧ k < w.heap.size := by
  rcases hk with rfl | hk | hk | hk
  · exact ⟨H.lob, (Array.getElem?_eq_some_iff.1 H.blk).1⟩
  · exact H.s.lt k hk
  · exact H.f.lt k hk
  · exact H.y.lt k hk
theorem own_obj {w : World} {base : Nat} {e : TypeId} {size : Nat} {v : Value} {n : Nat} {xs : List Value} (h : w.ownsRow base e size v n xs) {g : Nat} (hg : v.ownBlock = some g) : ∃ cur, w.heap[g]? = some (.cells cur e (0, 0)) := by
  rcases h.2 with ⟨rfl, _⟩ | ⟨g', cap, cur, rfl, _, hh, _⟩
  · simp [Value.ownBlock] at hg
  · simp [Value.ownBlock] at hg
    subst hg
    exact ⟨cur, hh⟩
theorem RingAt.sb (H : RingAt w lo b R sv fv wv) : sv.ownBlock ≠ some b := fun e => by
  obtain ⟨cur, h⟩ := own_obj H.s e
  rw [H.blk] at h
  simp at h
theorem RingAt.fb (H : RingAt w lo b R sv fv wv) : fv.ownBlock ≠ some b := fun e => by
  obtain ⟨cur, h⟩ := own_obj H.f e
  rw [H.blk] at h
  simp at h
theorem RingAt.yb (H : RingAt w lo b R sv fv wv) : wv.ownBlock ≠ some b := fun e => by
  obtain ⟨cur, h⟩ := own_obj H.y e
  rw [H.blk] at h
  simp at h
theorem RingAt.sf (H : RingAt w lo b R sv fv wv) {g : Nat} (hs : sv.ownBlock = some g) : fv.ownBlock ≠ some g := fun e => by
  obtain ⟨cur, h⟩ := own_obj H.s hs
  obtain ⟨cur2, h2⟩ := own_obj H.f e
  rw [h2] at h
  simp at h
theorem RingAt.sy (H : RingAt w lo b R sv fv wv) {g : Nat} (hs : sv.ownBlock = some g) : wv.ownBlock ≠ some g := fun e => by
  obtain ⟨cur, h⟩ := own_obj H.s hs
  obtain ⟨cur2, h2⟩ := own_obj H.y e
  rw [h2] at h
  simp at h

/-- Outside its blocks the world may turn. -/
theorem own_kept {w w' : World} {base : Nat} {e : TypeId} {size : Nat} {v : Value} {n : Nat} {xs : List Value} (h : w.ownsRow base e size v n xs) (hk : ∀ g, v.ownBlock = some g → w'.heap[g]? = w.heap[g]?) : w'.ownsRow base e size v n xs := by
  refine ⟨h.1, ?_⟩
  rcases h.2 with hn | ⟨g, cap, cur, rfl, hb, hgg, rest⟩
  · exact .inl hn
  · exact .inr ⟨g, cap, cur, rfl, hb, (hk g rfl).trans hgg, rest⟩
theorem RingAt.kept {w' : World} (H : RingAt w lo b R sv fv wv) (hk : ∀ k, Foot b sv fv wv k → w'.heap[k]? = w.heap[k]?) : RingAt w' lo b R sv fv wv :=
  ⟨(hk b (.inl rfl)).trans H.blk, H.lob, own_kept H.s (fun g hg => hk g (.inr (.inl hg))), own_kept H.f (fun g hg => hk g (.inr (.inr (.inl hg)))), own_kept H.y (fun g hg => hk g (.inr (.inr (.inr hg)))), H.fy⟩
theorem RingAt.fr {w' : World} {F : Nat → Prop} (H : RingAt w lo b R sv fv wv) (h : Fr F w w') (hF : ∀ k, Foot b sv fv wv k → ¬ F k) : RingAt w' lo b R sv fv wv :=
  H.kept fun k hk => h.block k (H.foot_lt k hk).2 (hF k hk)
theorem RingAt.drew (H : RingAt w lo b R sv fv wv) : RingAt w.drew lo b R sv fv wv := H.kept fun _ _ => rfl
theorem RingAt.drewN (H : RingAt w lo b R sv fv wv) (n : Nat) : RingAt (w.drewN n) lo b R sv fv wv := H.kept fun _ _ => rfl
theorem RingAt.alloc (H : RingAt w lo b R sv fv wv) (o : Obj) : RingAt (w.alloc o) lo b R sv fv wv := H.kept fun k hk => Below.heap_alloc w o k (H.foot_lt k hk).2
theorem RingAt.below {w' : World} (H : RingAt w lo b R sv fv wv) (hb : Below w.heap.size w w') : RingAt w' lo b R sv fv wv := H.kept fun k hk => hb.block k (H.foot_lt k hk).2
theorem RingAt.far (H : RingAt w lo b R sv fv wv) {p : Addr} (hp : ¬ Foot b sv fv wv p.block) (u : Value) : RingAt (w.setCell p u) lo b R sv fv wv :=
  H.kept fun k hk => Below.heap_setCell w p u k (fun e => by subst e; exact hp hk)
theorem heap_set_same (w : World) (g i : Nat) {cs : Array Value} {t : TypeId} (h : w.heap[g]? = some (.cells cs t (0, 0))) (u : Value) : (w.setCell ⟨g, i, none⟩ u).heap[g]? = some (.cells (cs.setIfInBounds i u) t (0, 0)) :=
  heap_setCell_same w g i cs t u h
theorem own_far {w : World} {base : Nat} {e : TypeId} {size : Nat} {v : Value} {n : Nat} {xs : List Value} (h : w.ownsRow base e size v n xs) {p : Addr} (hp : v.ownBlock ≠ some p.block) (u : Value) : (w.setCell p u).ownsRow base e size v n xs :=
  own_kept h fun g hg => Below.heap_setCell w p u g (fun e => hp (by rw [hg, e]))
theorem RingAt.setFirst (H : RingAt w lo b R sv fv wv) (x : Option Nat) : RingAt (w.setCell ⟨b, 4, none⟩ (.int .i64 (lk x))) lo b { R with first := x } sv fv wv :=
  ⟨heap_set_same w b 4 H.blk _, H.lob, own_far H.s H.sb _, own_far H.f H.fb _, own_far H.y H.yb _, H.fy⟩
theorem RingAt.setLast (H : RingAt w lo b R sv fv wv) (x : Option Nat) : RingAt (w.setCell ⟨b, 5, none⟩ (.int .i64 (lk x))) lo b { R with last := x } sv fv wv :=
  ⟨heap_set_same w b 5 H.blk _, H.lob, own_far H.s H.sb _, own_far H.f H.fb _, own_far H.y H.yb _, H.fy⟩
/-- The slots' row, where there is a slot. -/
theorem own_form {w : World} {base : Nat} {e : TypeId} {size : Nat} {v : Value} {n : Nat} {xs : List Value} (h : w.ownsRow base e size v n xs) (hn : 0 < n) : ∃ g c, v = .slice (some ⟨g, 0, none⟩) n c ∧ v.ownBlock = some g := by
  rcases h.2 with ⟨_, h0⟩ | ⟨g, cap, cur, rfl, _⟩
  · omega
  · exact ⟨g, cap, rfl, rfl⟩
theorem RingAt.slot {g n c : Nat} (H : RingAt w lo b R (.slice (some ⟨g, 0, none⟩) n c) fv wv) {k : Nat} {s : Slot} (hs : R.slots[k]? = some s) :
    w.cell? ⟨g, k * 4, none⟩ = some (.string s.key) ∧ w.cell? ⟨g, k * 4 + 1, none⟩ = some (.int .i64 s.v) ∧ w.cell? ⟨g, k * 4 + 2, none⟩ = some (.int .i64 (lk s.prev)) ∧ w.cell? ⟨g, k * 4 + 3, none⟩ = some (.int .i64 (lk s.next)) := by
  have hk := (List.getElem?_eq_some_iff.1 hs).1
  have h0 := H.s
  obtain ⟨_, _, he, _⟩ := own_form h0 (by omega)
  injection he with _ hn _
  subst hn
  exact ⟨by rw [h0.cellAt (k * 4) (by omega)]; exact rowOf_get hs 0 (by omega), by rw [h0.cellAt (k * 4 + 1) (by omega)]; exact rowOf_get hs 1 (by omega), by rw [h0.cellAt (k * 4 + 2) (by omega)]; exact rowOf_get hs 2 (by omega), by rw [h0.cellAt (k * 4 + 3) (by omega)]; exact rowOf_get hs 3 (by omega)⟩
theorem own_frozen {w : World} {base : Nat} {e : TypeId} {size : Nat} {v : Value} {n : Nat} {xs : List Value} (h : w.ownsRow base e size v n xs) {g : Nat} (hg : v.ownBlock = some g) (i : Nat) : w.frozen? ⟨g, i, none⟩ = false := by
  obtain ⟨cur, hh⟩ := own_obj h hg
  simp [World.frozen?, hh]
theorem own_set {w : World} {base : Nat} {e : TypeId} {size : Nat} {g n c : Nat} {xs : List Value} (h : w.ownsRow base e size (.slice (some ⟨g, 0, none⟩) n c) n xs) (j : Nat) (u : Value) : (w.setCell ⟨g, j, none⟩ u).ownsRow base e size (.slice (some ⟨g, 0, none⟩) n c) n (xs.set j u) := (h.stored j u).1
theorem set_of_modify {S : List Slot} {k : Nat} {s : Slot} (hs : S[k]? = some s) (f : Slot → Slot) : S.modify k f = S.set k (f s) := by
  apply List.ext_getElem?
  intro i
  have hk := (List.getElem?_eq_some_iff.1 hs)
  rw [List.getElem?_modify, List.getElem?_set]
  by_cases h : k = i
  · subst h
    rw [hs]
    simp [hk.1]
  · simp [h]
/-- One field of a slot. -/
theorem RingAt.setField {g n c : Nat} (H : RingAt w lo b R (.slice (some ⟨g, 0, none⟩) n c) fv wv) {k : Nat} {s : Slot} (hs : R.slots[k]? = some s) (j : Nat) (hj : j < 4) (u : Value) (f : Slot → Slot) (hu : (slotCells s).set j u = slotCells (f s)) :
    RingAt (w.setCell ⟨g, k * 4 + j, none⟩ u) lo b { R with slots := R.slots.modify k f } (.slice (some ⟨g, 0, none⟩) n c) fv wv := by
  have hk := (List.getElem?_eq_some_iff.1 hs).1
  have h0 := H.s
  obtain ⟨_, _, he, _⟩ := own_form h0 (by omega)
  injection he with _ hn _
  subst hn
  refine ⟨(Below.heap_setCell w ⟨g, k * 4 + j, none⟩ u b (fun e => H.sb (by rw [e]; rfl))).trans H.blk, H.lob, ?_, own_far (p := ⟨g, k * 4 + j, none⟩) H.f (H.sf rfl) u, own_far (p := ⟨g, k * 4 + j, none⟩) H.y (H.sy rfl) u, H.fy⟩
  have := own_set h0 (k * 4 + j) u
  rw [rowOf_set hs j hj hu] at this
  show World.ownsRow _ lo 68 4 _ (R.slots.modify k f).length (rowOf (R.slots.modify k f))
  rw [set_of_modify hs f, List.length_set]
  exact this
theorem RingAt.setSlot {g n c : Nat} (H : RingAt w lo b R (.slice (some ⟨g, 0, none⟩) n c) fv wv) {k : Nat} (hk : k < R.slots.length) (s' : Slot) :
    RingAt ((((w.setCell ⟨g, k * 4, none⟩ (.string s'.key)).setCell ⟨g, k * 4 + 1, none⟩ (.int .i64 s'.v)).setCell ⟨g, k * 4 + 2, none⟩ (.int .i64 (lk s'.prev))).setCell ⟨g, k * 4 + 3, none⟩ (.int .i64 (lk s'.next))) lo b { R with slots := R.slots.set k s' } (.slice (some ⟨g, 0, none⟩) n c) fv wv := by
  obtain ⟨s, hs⟩ : ∃ s, R.slots[k]? = some s := ⟨_, List.getElem?_eq_getElem hk⟩
  have h1 := H.setField hs 0 (by omega) (.string s'.key) (fun t => { t with key := s'.key }) rfl
  rw [set_of_modify hs] at h1
  have g1 : (R.slots.set k { s with key := s'.key })[k]? = some { s with key := s'.key } := by rw [List.getElem?_set]; simp [hk]
  have h2 := h1.setField g1 1 (by omega) (.int .i64 s'.v) (fun t => { t with v := s'.v }) rfl
  have e2 := set_of_modify g1 (fun t : Slot => { t with v := s'.v })
  rw [List.set_set] at e2
  dsimp only at h2 e2
  rw [e2] at h2
  have g2 : (R.slots.set k { s with key := s'.key, v := s'.v })[k]? = some { s with key := s'.key, v := s'.v } := by rw [List.getElem?_set]; simp [hk]
  have h3 := h2.setField g2 2 (by omega) (.int .i64 (lk s'.prev)) (fun t => { t with prev := s'.prev }) rfl
  have e3 := set_of_modify g2 (fun t : Slot => { t with prev := s'.prev })
  rw [List.set_set] at e3
  dsimp only at h3 e3
  rw [e3] at h3
  have g3 : (R.slots.set k { s with key := s'.key, v := s'.v, prev := s'.prev })[k]? = some { s with key := s'.key, v := s'.v, prev := s'.prev } := by rw [List.getElem?_set]; simp [hk]
  have h4 := h3.setField g3 3 (by omega) (.int .i64 (lk s'.next)) (fun t => { t with next := s'.next }) rfl
  have e4 := set_of_modify g3 (fun t : Slot => { t with next := s'.next })
  rw [List.set_set] at e4
  dsimp only at h4 e4
  rw [e4] at h4
  exact h4

/-- The table behind a pointer, as keys and values in order. -/
def TabAt (w : World) (lo b room : Nat) (L : List (ByteArray × Int)) (F : Nat → Prop) : Prop :=
  ∃ R o sv fv wv, RingAt w lo b R sv fv wv ∧ Rep R o ∧ R.room = room ∧ Lst R o = L ∧ ∀ k, Foot b sv fv wv k → F k
def TabPost (w : World) (lo b room : Nat) (F : Nat → Prop) (v : Value) (L : List (ByteArray × Int)) (e : Ending) (w' : World) : Prop :=
  e = .returned v ∧ ∃ F', TabAt w' lo b room L F' ∧ (∀ k, F' k → F k ∨ w.heap.size ≤ k) ∧ Fr F w w'
end
end Go.Proofs.Ytapclgjelekijaa
