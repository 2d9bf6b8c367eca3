import Derived.Test.YtbpkmgkdbgdmeaaL4
/-! Parts: the walk. -/
namespace Go.Proofs.Ytbpkmgkdbgdmeaa
open Go.RowKit
set_option linter.unusedSimpArgs false
set_option linter.unusedVariables false

theorem row_kept {w w' : World} {base b n : Nat} {v : Value} {xs : List Value} (h : w.ownsRow base 9 1 v n xs) (hk : Lib.OthersKept 5 (some b) w w') (hb : ∃ cs, w.heap[b]? = some (.cells cs 40 (0, 0))) : w'.ownsRow base 9 1 v n xs := by
  refine ⟨h.1, ?_⟩
  rcases h.2 with hn | ⟨g, cap, cur, rfl, hb1, hgg, rest⟩
  · exact .inl hn
  · refine .inr ⟨g, cap, cur, rfl, hb1, hk g _ hgg ?_ ?_, rest⟩
    · intro e
      injection e with e
      subst e
      obtain ⟨cs, hc⟩ := hb
      rw [hgg] at hc
      injection hc with hc
      injection hc with _ hc
      exact absurd hc (by decide)
    · intro c fz e
      injection e with _ e
      exact absurd e (by decide)
theorem builder_grown {w w' : World} {B b base n : Nat} {bs xs : List Value} {v : Value} (h : Lib.IsBuilderF 40 5 B b bs w) (ho : w.ownsRow base 9 1 v n xs) (hg : w.grownBy w' v.ownBlock) : Lib.IsBuilderF 40 5 B b bs w' := by
  have hrow : ∀ g, v.ownBlock = some g → ∃ cs, w.heap[g]? = some (.cells cs 9 (0, 0)) := by
    intro g hv
    rcases ho.2 with ⟨h1, h2⟩ | ⟨g', cap, cur, rfl, _, hgg, _⟩
    · rw [h1] at hv; simp [Value.ownBlock] at hv
    · simp [Value.ownBlock] at hv
      subst hv
      exact ⟨_, hgg⟩
  have hat : ∀ p, Lib.BuilderAtF 40 5 B b p bs w → Lib.BuilderAtF 40 5 B b p bs w' := by
    rintro p ⟨hB, u, hbk, hown, hne⟩
    have hl := (Array.getElem?_eq_some_iff.1 hbk).1
    refine ⟨hB, u, ?_, hown.kept hg ?_, hne⟩
    · rw [hg.block b hl (fun e => by
        obtain ⟨cs, hc⟩ := hrow b e.symm
        rw [hbk] at hc
        injection hc with hc
        injection hc with _ hc
        exact absurd hc (by decide))]
      exact hbk
    · cases hu : u.ownBlock with
      | none => exact .inl rfl
      | some g =>
        refine .inr (fun e => ?_)
        obtain ⟨cs, hc⟩ := hrow g e.symm
        obtain ⟨cs2, fz2, hc2⟩ := Lib.ownsRowF_kind hown g hu
        rw [hc] at hc2
        injection hc2 with hc2
        injection hc2 with _ hc2
        exact absurd hc2 (by decide)
  exact h.elim (fun h => .inl (hat _ h)) (fun h => .inr (hat _ h))
theorem builder_block {B b : Nat} {bs : List Value} {w : World} (h : Lib.IsBuilderF 40 5 B b bs w) : ∃ cs, w.heap[b]? = some (.cells cs 40 (0, 0)) := by
  rcases h with ⟨_, v, hb, _⟩ | ⟨_, v, hb, _⟩
  · exact ⟨_, hb⟩
  · exact ⟨_, hb⟩
def strsV (out : List (List UInt8)) : List Value := out.map fun l => Value.string (bstr l)
theorem strsV_snoc (out : List (List UInt8)) (p : List UInt8) : strsV (out ++ [p]) = strsV out ++ [.string (bstr p)] := by unfold strsV; rw [List.map_append]; rfl
theorem strsV_length (out : List (List UInt8)) : (strsV out).length = out.length := List.length_map ..
/-- Where the way back stands. -/
structure PAt (w wr : World) (now : List UInt8) (v : Value) (out : List (List UInt8)) : Prop where
  b : Lib.IsBuilderF 40 5 w.heap.size w.heap.size (Lib.byteCells now) wr
  o : wr.ownsRow w.heap.size 9 1 v out.length (strsV out)
  bel : Below w.heap.size w wr
theorem PAt.turn {w wr w' : World} {now now' : List UInt8} {v : Value} {out : List (List UInt8)} (H : PAt w wr now v out) (hb : Lib.IsBuilderF 40 5 w.heap.size w.heap.size (Lib.byteCells now') w') (hw : Below w.heap.size wr w') (hk : Lib.OthersKept 5 (some w.heap.size) wr w') : PAt w w' now' v out :=
  ⟨hb, row_kept H.o hk (builder_block H.b), H.bel.trans hw⟩
theorem PAt.byte {w wr w' : World} {now : List UInt8} {v : Value} {out : List (List UInt8)} {b : UInt8} {p : Value} (H : PAt w wr now v out) (hp : p = .pointer (some ⟨w.heap.size, 0, none⟩))
    (hb : Lib.BuilderAtF 40 5 w.heap.size w.heap.size p (Lib.byteCells now ++ [.int .u8 (b.toNat : Int)]) w') (hw : Below w.heap.size wr w') (hk : Lib.OthersKept 5 (some w.heap.size) wr w') : PAt w w' (now ++ [b]) v out := by
  subst hp
  refine H.turn (.inr ?_) hw hk
  have e : Lib.byteCells (now ++ [b]) = Lib.byteCells now ++ [.int .u8 (b.toNat : Int)] := by unfold Lib.byteCells; rw [List.map_append]; rfl
  rw [e]
  exact hb
theorem PAt.size {w wr : World} {now : List UInt8} {v : Value} {out : List (List UInt8)} (H : PAt w wr now v out) : w.heap.size ≤ wr.heap.size := H.bel.size
/-- What Parts gives. -/
def PartsPost (w : World) (s : ByteArray) (e : Ending) (w' : World) : Prop :=
  ∃ v, e = .returned (.tuple #[v, .bool (parP s.data.toList [] []).isSome]) ∧ StrAt w' v (((parP s.data.toList [] []).getD []).map bstr) ∧ Below w.heap.size w w'
theorem StrAt.nil (w : World) : StrAt w (.slice none 0 0) [] := ⟨none, 0, rfl, by decide, fun h => absurd h (by decide)⟩
theorem parP_colon (r now : List UInt8) (out : List (List UInt8)) : parP (58 :: r) now out = parP r [] (out ++ [now]) := by conv => lhs; unfold parP; rw [if_pos rfl]
theorem parP_esc {c : UInt8} (h : isSp c = true) (r now : List UInt8) (out : List (List UInt8)) : parP (92 :: c :: r) now out = parP r (now ++ [c]) out := by
  conv => lhs; unfold parP; rw [if_neg (by decide), if_pos rfl]
  simp only
  rw [if_pos h]
theorem parP_bad {c : UInt8} (h : isSp c = false) (r now : List UInt8) (out : List (List UInt8)) : parP (92 :: c :: r) now out = none := by
  conv => lhs; unfold parP; rw [if_neg (by decide), if_pos rfl]
  simp only
  rw [h, if_neg (by decide)]
theorem parP_last (now : List UInt8) (out : List (List UInt8)) : parP [92] now out = none := by
  conv => lhs; unfold parP; rw [if_neg (by decide), if_pos rfl]
theorem parP_other {b : UInt8} (h1 : ¬ b = 58) (h2 : ¬ b = 92) (r now : List UInt8) (out : List (List UInt8)) : parP (b :: r) now out = parP r (now ++ [b]) out := by
  conv => lhs; unfold parP; rw [if_neg h1, if_neg h2]
theorem drop_cons {l : List UInt8} {k : Nat} {b : UInt8} (h : l[k]? = some b) : l.drop k = b :: l.drop (k + 1) := by
  have hk := (List.getElem?_eq_some_iff.1 h).1
  rw [List.drop_eq_getElem_cons hk]
  rw [List.getElem?_eq_getElem hk] at h
  injection h with h
  rw [h]
end Go.Proofs.Ytbpkmgkdbgdmeaa
