/- Part 5 of the proof: C3a. -/
import Derived.Test.YtacimedkchjfnaaGreatV04
section
/-! Goroutine 0's Wait. -/
namespace Go.Proofs.YtacimedkchjfnaaGreat
set_option linter.unusedSimpArgs false
set_option linter.unusedVariables false
set_option maxRecDepth 100000
open Go.Conc Go.RowKit Go.Conc.Lib Go.ConcR.Gen
open Go.ConcR (KK wgBlock WgAt stA smA rd wr deafBehind_cons deafBehind_one)
open Go.ConcN (WgLive)
theorem arr84 (T : Array Value) (h : T.size = 84) : ∃ v0 v1 v2 v3 v4 v5 v6 v7 v8 v9 v10 v11 v12 v13 v14 v15 v16 v17 v18 v19 v20 v21 v22 v23 v24 v25 v26 v27 v28 v29 v30 v31 v32 v33 v34 v35 v36 v37 v38 v39 v40 v41 v42 v43 v44 v45 v46 v47 v48 v49 v50 v51 v52 v53 v54 v55 v56 v57 v58 v59 v60 v61 v62 v63 v64 v65 v66 v67 v68 v69 v70 v71 v72 v73 v74 v75 v76 v77 v78 v79 v80 v81 v82 v83 : Value, T = #[v0, v1, v2, v3, v4, v5, v6, v7, v8, v9, v10, v11, v12, v13, v14, v15, v16, v17, v18, v19, v20, v21, v22, v23, v24, v25, v26, v27, v28, v29, v30, v31, v32, v33, v34, v35, v36, v37, v38, v39, v40, v41, v42, v43, v44, v45, v46, v47, v48, v49, v50, v51, v52, v53, v54, v55, v56, v57, v58, v59, v60, v61, v62, v63, v64, v65, v66, v67, v68, v69, v70, v71, v72, v73, v74, v75, v76, v77, v78, v79, v80, v81, v82, v83] := by
  obtain ⟨l⟩ := T
  simp only [List.size_toArray] at h
  rcases l with _ | ⟨v0, l⟩
  · simp at h
  rcases l with _ | ⟨v1, l⟩
  · simp at h
  rcases l with _ | ⟨v2, l⟩
  · simp at h
  rcases l with _ | ⟨v3, l⟩
  · simp at h
  rcases l with _ | ⟨v4, l⟩
  · simp at h
  rcases l with _ | ⟨v5, l⟩
  · simp at h
  rcases l with _ | ⟨v6, l⟩
  · simp at h
  rcases l with _ | ⟨v7, l⟩
  · simp at h
  rcases l with _ | ⟨v8, l⟩
  · simp at h
  rcases l with _ | ⟨v9, l⟩
  · simp at h
  rcases l with _ | ⟨v10, l⟩
  · simp at h
  rcases l with _ | ⟨v11, l⟩
  · simp at h
  rcases l with _ | ⟨v12, l⟩
  · simp at h
  rcases l with _ | ⟨v13, l⟩
  · simp at h
  rcases l with _ | ⟨v14, l⟩
  · simp at h
  rcases l with _ | ⟨v15, l⟩
  · simp at h
  rcases l with _ | ⟨v16, l⟩
  · simp at h
  rcases l with _ | ⟨v17, l⟩
  · simp at h
  rcases l with _ | ⟨v18, l⟩
  · simp at h
  rcases l with _ | ⟨v19, l⟩
  · simp at h
  rcases l with _ | ⟨v20, l⟩
  · simp at h
  rcases l with _ | ⟨v21, l⟩
  · simp at h
  rcases l with _ | ⟨v22, l⟩
  · simp at h
  rcases l with _ | ⟨v23, l⟩
  · simp at h
  rcases l with _ | ⟨v24, l⟩
  · simp at h
  rcases l with _ | ⟨v25, l⟩
  · simp at h
  rcases l with _ | ⟨v26, l⟩
  · simp at h
  rcases l with _ | ⟨v27, l⟩
  · simp at h
  rcases l with _ | ⟨v28, l⟩
  · simp at h
  rcases l with _ | ⟨v29, l⟩
  · simp at h
  rcases l with _ | ⟨v30, l⟩
  · simp at h
  rcases l with _ | ⟨v31, l⟩
  · simp at h
  rcases l with _ | ⟨v32, l⟩
  · simp at h
  rcases l with _ | ⟨v33, l⟩
  · simp at h
  rcases l with _ | ⟨v34, l⟩
  · simp at h
  rcases l with _ | ⟨v35, l⟩
  · simp at h
  rcases l with _ | ⟨v36, l⟩
  · simp at h
  rcases l with _ | ⟨v37, l⟩
  · simp at h
  rcases l with _ | ⟨v38, l⟩
  · simp at h
  rcases l with _ | ⟨v39, l⟩
  · simp at h
  rcases l with _ | ⟨v40, l⟩
  · simp at h
  rcases l with _ | ⟨v41, l⟩
  · simp at h
  rcases l with _ | ⟨v42, l⟩
  · simp at h
  rcases l with _ | ⟨v43, l⟩
  · simp at h
  rcases l with _ | ⟨v44, l⟩
  · simp at h
  rcases l with _ | ⟨v45, l⟩
  · simp at h
  rcases l with _ | ⟨v46, l⟩
  · simp at h
  rcases l with _ | ⟨v47, l⟩
  · simp at h
  rcases l with _ | ⟨v48, l⟩
  · simp at h
  rcases l with _ | ⟨v49, l⟩
  · simp at h
  rcases l with _ | ⟨v50, l⟩
  · simp at h
  rcases l with _ | ⟨v51, l⟩
  · simp at h
  rcases l with _ | ⟨v52, l⟩
  · simp at h
  rcases l with _ | ⟨v53, l⟩
  · simp at h
  rcases l with _ | ⟨v54, l⟩
  · simp at h
  rcases l with _ | ⟨v55, l⟩
  · simp at h
  rcases l with _ | ⟨v56, l⟩
  · simp at h
  rcases l with _ | ⟨v57, l⟩
  · simp at h
  rcases l with _ | ⟨v58, l⟩
  · simp at h
  rcases l with _ | ⟨v59, l⟩
  · simp at h
  rcases l with _ | ⟨v60, l⟩
  · simp at h
  rcases l with _ | ⟨v61, l⟩
  · simp at h
  rcases l with _ | ⟨v62, l⟩
  · simp at h
  rcases l with _ | ⟨v63, l⟩
  · simp at h
  rcases l with _ | ⟨v64, l⟩
  · simp at h
  rcases l with _ | ⟨v65, l⟩
  · simp at h
  rcases l with _ | ⟨v66, l⟩
  · simp at h
  rcases l with _ | ⟨v67, l⟩
  · simp at h
  rcases l with _ | ⟨v68, l⟩
  · simp at h
  rcases l with _ | ⟨v69, l⟩
  · simp at h
  rcases l with _ | ⟨v70, l⟩
  · simp at h
  rcases l with _ | ⟨v71, l⟩
  · simp at h
  rcases l with _ | ⟨v72, l⟩
  · simp at h
  rcases l with _ | ⟨v73, l⟩
  · simp at h
  rcases l with _ | ⟨v74, l⟩
  · simp at h
  rcases l with _ | ⟨v75, l⟩
  · simp at h
  rcases l with _ | ⟨v76, l⟩
  · simp at h
  rcases l with _ | ⟨v77, l⟩
  · simp at h
  rcases l with _ | ⟨v78, l⟩
  · simp at h
  rcases l with _ | ⟨v79, l⟩
  · simp at h
  rcases l with _ | ⟨v80, l⟩
  · simp at h
  rcases l with _ | ⟨v81, l⟩
  · simp at h
  rcases l with _ | ⟨v82, l⟩
  · simp at h
  rcases l with _ | ⟨v83, l⟩
  · simp at h
  rcases l with _ | ⟨x, l⟩
  · exact ⟨v0, v1, v2, v3, v4, v5, v6, v7, v8, v9, v10, v11, v12, v13, v14, v15, v16, v17, v18, v19, v20, v21, v22, v23, v24, v25, v26, v27, v28, v29, v30, v31, v32, v33, v34, v35, v36, v37, v38, v39, v40, v41, v42, v43, v44, v45, v46, v47, v48, v49, v50, v51, v52, v53, v54, v55, v56, v57, v58, v59, v60, v61, v62, v63, v64, v65, v66, v67, v68, v69, v70, v71, v72, v73, v74, v75, v76, v77, v78, v79, v80, v81, v82, v83, rfl⟩
  · simp at h

theorem tM (x : Ph) : GT x.RM x.DM := ⟨Ph.rm_tr, fun d w => ⟨rfl, fun e he => by simp at he⟩⟩
theorem tM0 (x : Ph) : GT x.RM0 x.DM := ⟨Ph.rm0_tr, fun d w => ⟨rfl, fun e he => by simp at he⟩⟩
/-- Behind the acquire: the world stands, nothing is listed. -/
def DN (d : Nat) (w w' : World) (es : Array Event) : Prop := w' = w ∧ es = #[]
theorem tN : GT AtRel DN := ⟨atRel_trans, fun _ _ => ⟨rfl, rfl⟩⟩
/-- Behind the acquire goroutine 0 comes to 'gr', whatever the world. -/
def AnchR (gr : Goroutine) (g : Goroutine) : Prop := ∃ m, ∀ w, GD Tryz.prog true AtRel DN (fun d g _ => d = 0 ∧ g = gr) m 0 g w
noncomputable def L26 : Code := match Tryz.f26.body.getD .skip with
  | .seq _ (.block _ (.loop c)) => c
  | _ => .skip
section
variable {x : Ph} {b₀ : Frame} {a₀ : Act} {ops₀ : Array Oper} {i₀ : Nat} {rest₀ : List Nat} {k₀ : List Item} {cs₀ : List Frame}
/-- The group's block is one. -/
structure LB (x : Ph) (w : World) : Prop where
  live : WgLive x.ty x.Wg w
/-- Where Wait comes back to. -/
abbrev backW (b₀ : Frame) (a₀ : Act) (ops₀ : Array Oper) (i₀ : Nat) (rest₀ : List Nat) (k₀ : List Item) (cs₀ : List Frame) : Goroutine := G (b₀.at (a₀.put ((ops₀[i₀]?).bind (·.dst)) (.tuple #[])) (.inRegion ops₀ rest₀ :: k₀)) cs₀
theorem atW_acq {Anch : Goroutine → Prop} {V d : Nat} {g : Goroutine} {w : World} (h : x.AtAcq Tryz.prog Anch d g w) : x.AtW Tryz.prog Anch V d g w := by
  induction V with
  | zero => exact h
  | succ V ih => exact .inl ih
theorem atW_cas {Anch : Goroutine → Prop} {V v d : Nat} {g : Goroutine} {w : World} (hv : v < V) (h : x.AtCas Tryz.prog Anch (v + 1) (x.AtW Tryz.prog Anch v) d g w) : x.AtW Tryz.prog Anch V d g w := by
  induction V with
  | zero => omega
  | succ V ih =>
    by_cases e : v = V
    · subst e; exact .inr h
    · exact .inl (ih (by omega))
end
end Go.Proofs.YtacimedkchjfnaaGreat
end
