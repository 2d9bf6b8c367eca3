/- Part 1 of the proof: B4, B5, B6, B7, B8. -/
import Derived.Test.YtacimedkchjfnaaGreatV00
section
/-! The phase: where each goroutine stands. -/
namespace Go.Proofs.YtacimedkchjfnaaGreat
set_option linter.unusedSimpArgs false
set_option linter.unusedVariables false
open Go.Conc
open Go.ConcR (KK wgBlock WgAt stA smA rd wr deafBehind_cons deafBehind_one)
open Go.ConcN (WgLive PermW fork_knows RelBy upd upd_same upd_ne)
namespace Ph
variable (x : Ph) (P : Program)
/-- The workers' select. -/
def cs : Array CommCase := #[rcase x.J x.zj, rcase x.E x.ze]
def snd1 (q : Nat) : Array CommCase := #[scase x.J (x.job q) undef]

/-! ### a worker, from its end backwards -/
def AtD4 (d : Nat) (g : Goroutine) (w : World) : Prop :=
  d = 1 ∧ g.status = .running ∧ mayWake P g = true ∧ WgAt x.ty x.Wg w 0 0 ∧
    ∃ g', stepG P false g w = .go g' (w.setCell (smA x.Wg) (.int .u32 1)) (semEvents (smA x.Wg)) ∧ ∃ q, QuitsD P q 1 g'
def AtD1 (d : Nat) (g : Goroutine) (w : World) : Prop :=
  d = 1 ∧ g.status = .running ∧ ∀ v wt : Nat, wt ≤ 1 → v < 3 → WgAt x.ty x.Wg w (((v : Int) + 1) * KK + wt) 0 →
    ∃ g', stepG P false g w = .go g' (w.setCell (stA x.Wg) (.int .u64 ((v : Int) * KK + wt))) #[rd (stA x.Wg), wr (stA x.Wg)] ∧
      ((v = 0 ∧ wt = 1) → ∃ m, GD P false x.RL x.DL (x.AtD4 P) m 1 g' (w.setCell (stA x.Wg) (.int .u64 ((v : Int) * KK + wt)))) ∧ (¬ (v = 0 ∧ wt = 1) → ∃ q, QuitsD P q 1 g')
def AtR0 (d : Nat) (g : Goroutine) (w : World) : Prop :=
  d = 0 ∧ g.status = .running ∧ ∃ g', stepG P false g w = .go g' w #[Go.ConcR.mk (.releaseMerge (stA x.Wg))] ∧ ∃ m, GD P false (x.RK none none) DW (x.AtD1 P) m 0 g' w
section
variable (AnchS : Goroutine → Prop)
def AtS (d : Nat) (g : Goroutine) (w : World) : Prop := d = 0 ∧ AnchS g
def AtSq (q : Nat) (d : Nat) (g : Goroutine) (w : World) : Prop := d = 0 ∧ AnchS g ∧ w.cell? (x.oc q) = some (x.val q)
def AtA (q : Nat) (d : Nat) (g : Goroutine) (w : World) : Prop :=
  d = 0 ∧ g.status = .running ∧ ∃ ob g', stepG P false g w = .go g' (w.alloc ob) #[] ∧ ∃ m, GD P false (x.RK (some w.heap.size) (some q)) (x.DR w.heap.size q) (x.AtSq AnchS q) m 0 g' (w.alloc ob)
/-- How the select goes on, whichever case is taken. -/
structure FinS (g₂ : Goroutine) : Prop where
  job : ∀ q, q < x.N → ∀ w, x.WI w → ∃ m, GD P false (x.RK none (some q)) x.D0 (x.AtA P AnchS q) m 0 (g₂.finishComm P x.cs .select 0 (x.job q) true) w
  fin : ∀ w, x.WI w → ∃ m, GD P false (x.RK none none) x.D0 (x.AtR0 P) m 0 (g₂.finishComm P x.cs .select 1 x.ze false) w
/-- What is asked of the workers' text. -/
structure WkS : Prop where
  run : ∀ g, AnchS g → g.status = .running
  sel : ∀ g w, AnchS g → x.WI w → ∃ g₂, stepG P false g w = .comm g₂ x.cs true .select w #[] ∧ AnchS g₂ ∧ x.FinS P AnchS g₂
  tries : ∀ g, AnchS g → AnchS { parked g x.cs .select with status := .running }
end

/-! ### goroutine 0, from its end backwards -/
section
variable (Anch : Goroutine → Prop)
def AtAcq (d : Nat) (g : Goroutine) (w : World) : Prop :=
  d = 0 ∧ g.status = .running ∧ WgAt x.ty x.Wg w 0 0 ∧ ∃ g', stepG P true g w = .go g' w #[Go.ConcR.mk (.acquire (stA x.Wg))] ∧ Anch g'
def AtW3 (d : Nat) (g : Goroutine) (w : World) : Prop :=
  g.status = .running ∧ g.offers = none ∧ (∀ st, WgAt x.ty x.Wg w st 0 → stepG P true g w = .go { g with status := .blocked } w #[]) ∧
    (WgAt x.ty x.Wg w 0 1 → ∃ g', stepG P true g w = .go g' (w.setCell (smA x.Wg) (.int .u32 0)) (semEvents (smA x.Wg)) ∧ ∃ m, GD P true x.RM x.DM (x.AtAcq P Anch) m d g' (w.setCell (smA x.Wg) (.int .u32 0)))
/-- The CompareAndSwap, 'vs' having been seen; a miss leads to 'Nx'. -/
def AtCas (vs : Nat) (Nx : Nat → Goroutine → World → Prop) (d : Nat) (g : Goroutine) (w : World) : Prop :=
  g.status = .running ∧ x.CL vs w ∧
    (WgAt x.ty x.Wg w ((vs : Int) * KK) 0 → ∃ g', stepG P true g w = .go g' (w.setCell (stA x.Wg) (.int .u64 ((vs : Int) * KK + 1))) #[rd (stA x.Wg), wr (stA x.Wg)] ∧
      ∃ m, GD P true x.RM0 x.DM (x.AtW3 P Anch) m d g' (w.setCell (stA x.Wg) (.int .u64 ((vs : Int) * KK + 1)))) ∧
    (∀ v : Nat, v < vs → WgAt x.ty x.Wg w ((v : Int) * KK) 0 → ∃ g', stepG P true g w = .go g' w #[rd (stA x.Wg)] ∧ ∃ m, GD P true x.RM x.DM Nx m d g' w)
/-- Wait, the count being at most V. -/
def AtW : Nat → Nat → Goroutine → World → Prop
  | 0 => x.AtAcq P Anch
  | V + 1 => fun d g w => AtW V d g w ∨ x.AtCas P Anch (V + 1) (AtW V) d g w
def AtCl (d : Nat) (g : Goroutine) (w : World) : Prop :=
  d = 0 ∧ g.status = .running ∧ mayWake P g = true ∧ ∀ s r : Nat, w.heap[x.E]? = some (.chan 0 #[] false s r false) →
    ∃ g', stepG P true g w = .go g' (w.setChan x.E 0 #[] true s r false) #[⟨.obj x.E, false, true⟩, ⟨.obj x.E, true, true⟩] ∧ g'.status = .running ∧ ∃ m, GD P true x.RM x.DM (x.AtW P Anch 3) m 0 g' (w.setChan x.E 0 #[] true s r false)
/-- How it goes on behind a send. -/
def FinM (Nx : Nat → Goroutine → World → Prop) (q : Nat) (g₂ : Goroutine) : Prop :=
  ∀ w, x.WI w → x.CL 3 w → ∃ m, GD P true x.RM x.DM Nx m 0 (g₂.finishComm P (x.snd1 q) .send 0 undef false) w
def MSnd : Nat → Nat → Goroutine → World → Prop
  | 0 => x.AtCl P Anch
  | r + 1 => fun d g w => d = 0 ∧ g.status = .running ∧ ∃ g₂, stepG P true g w = .comm g₂ (x.snd1 (x.N - (r + 1))) true .send w #[] ∧ x.FinM P (MSnd r) (x.N - (r + 1)) g₂
variable (AnchS : Goroutine → Prop)
/-- A go statement, r of them behind this one. -/
def AtGo (r : Nat) (Nx : Goroutine → World → Prop) (d : Nat) (g : Goroutine) (w : World) : Prop :=
  d = 0 ∧ g.status = .running ∧ WgAt x.ty x.Wg w (((3 - r : Nat) : Int) * KK) 0 ∧ ∃ g' child, stepG P true g w = .spawn g' child w #[] ∧ child.status = .running ∧ child.offers = none ∧
      (∀ w₁, x.WI w₁ → ∃ m, GD P false (x.RK none none) x.D0 (AtS AnchS) m 0 child w₁) ∧ Nx g' w
def MSp : Nat → Nat → Goroutine → World → Prop
  | 0 => x.AtGo P AnchS 0 fun g' _ => ∀ w₁, x.WI w₁ → x.CL 3 w₁ → ∃ m, GD P true x.RM x.DM (x.MSnd P Anch x.N) m 0 g' w₁
  | k + 1 => x.AtGo P AnchS (k + 1) fun g' w => ∃ m, GD P true AtRel x.DS (MSp k) m 0 g' w
end

/-! ### where each stands -/
end Ph
/-- A worker. -/
inductive WT where
  | sel (m : Nat) | wait | job (q m : Nat) | run (q b m : Nat) | fin (m : Nat) | rel (d m : Nat) | last (d m : Nat) | quit (d m : Nat)
namespace WT
def stage : WT → Nat
  | .job .. => 8 | .run .. => 7 | .sel _ => 6 | .wait => 6 | .fin _ => 5 | .rel .. => 4 | .last .. => 3 | .quit .. => 1
def fuel : WT → Nat
  | .sel m => m + 1 | .wait => 0 | .job _ m => m | .run _ _ m => m | .fin m => m | .rel _ m => m | .last _ m => m | .quit _ m => m
def deaf : WT → Nat
  | .rel d _ => d | .last d _ => d | .quit d _ => d | _ => 0
def cnt (τ : WT) : Nat := if 4 ≤ τ.stage then 1 else 0
/-- the job that it has; the block that it has -/
def has : WT → Option Nat
  | .job q _ => some q | .run q _ _ => some q | _ => none
def blk : WT → Option Nat
  | .run _ b _ => some b | _ => none
end WT
/-- Goroutine 0. -/
inductive MT where
  | sp (r d m : Nat) | snd (r d m : Nat) | prk (r : Nat) | anch (V d m : Nat) | w3 (d m : Nat) | blk (d : Nat) | fin (d m : Nat)
namespace MT
def fuel : MT → Nat
  | .sp _ _ m => m | .snd _ _ m => m + 1 | .prk _ => 0 | .anch _ _ m => m | .w3 _ m => m + 1 | .blk _ => 0 | .fin _ m => m
def phi : MT → Nat
  | .sp r _ _ => 1000 + 16 * r | .snd r _ _ => 4 * r + 60 | .prk r => 4 * r + 60 | .anch V _ _ => 8 * V + 6 | .w3 .. => 5 | .blk _ => 5 | .fin .. => 4
def deaf : MT → Nat
  | .sp _ d _ => d | .snd _ d _ => d | .anch _ d _ => d | .w3 d _ => d | .blk d => d | .fin d _ => d | _ => 0
/-- how many jobs are handed out; is the end closed -/
def sent (N : Nat) : MT → Nat
  | .sp .. => 0 | .snd r _ _ => N - r | .prk r => N - r | _ => N
def closed : MT → Bool
  | .sp .. => false | .snd .. => false | .prk _ => false | _ => true
/-- how many workers are started -/
def begun : MT → Nat
  | .sp r _ _ => 2 - r | _ => 3
end MT
namespace Ph
section
variable (x : Ph) (P : Program) (AnchS Anch : Goroutine → Prop)
def WSit : WT → Goroutine → World → Prop
  | .sel m, g, w => GD P false (x.RK none none) x.D0 (AtS AnchS) m 0 g w
  | .wait, g, _ => ∃ g₂, g = parked g₂ x.cs .select ∧ AnchS g₂ ∧ x.FinS P AnchS g₂
  | .job q m, g, w => q < x.N ∧ GD P false (x.RK none (some q)) x.D0 (x.AtA P AnchS q) m 0 g w
  | .run q b m, g, w => q < x.N ∧ GD P false (x.RK (some b) (some q)) (x.DR b q) (x.AtSq AnchS q) m 0 g w
  | .fin m, g, w => GD P false (x.RK none none) x.D0 (x.AtR0 P) m 0 g w
  | .rel d m, g, w => GD P false (x.RK none none) DW (x.AtD1 P) m d g w
  | .last d m, g, w => GD P false x.RL x.DL (x.AtD4 P) m d g w
  | .quit d m, g, _ => QuitsD P m d g
def MSit : MT → Goroutine → World → Prop
  | .sp r d m, g, w => r ≤ 2 ∧ GD P true AtRel x.DS (x.MSp P Anch AnchS r) m d g w
  | .snd r d m, g, w => r ≤ x.N ∧ GD P true x.RM x.DM (x.MSnd P Anch r) m d g w
  | .prk r, g, _ => ∃ r', r = r' + 1 ∧ r ≤ x.N ∧ ∃ g₂, g = parked g₂ (x.snd1 (x.N - r)) .send ∧ x.FinM P (x.MSnd P Anch r') (x.N - r) g₂
  | .anch V d m, g, w => V ≤ 3 ∧ GD P true x.RM x.DM (x.AtW P Anch V) m d g w
  | .w3 d m, g, w => GD P true x.RM0 x.DM (x.AtW3 P Anch) m d g w
  | .blk d, g, w => ∃ g₀, g = { g₀ with status := .blocked } ∧ ∀ w₁, x.RM0 w w₁ → x.AtW3 P Anch d g₀ w₁
  | .fin d m, g, w => GD P true x.RM x.DM (x.AtAcq P Anch) m d g w
/-- What each suffers. -/
def WRel : WT → World → World → Prop
  | .last .. => x.RL
  | .quit .. => fun _ _ => True
  | τ => x.RK τ.blk τ.has
def MRel : MT → World → World → Prop
  | .sp .. => AtRel
  | .w3 .. => x.RM0
  | .blk _ => x.RM0
  | .prk _ => fun _ _ => True
  | _ => x.RM
end
section
variable {x : Ph} {P : Program} {AnchS Anch : Goroutine → Prop} {g : Goroutine} {w w₁ : World}
theorem rk_tr {o q : Option Nat} : ∀ a b c, x.RK o q a b → x.RK o q b c → x.RK o q a c := fun _ _ _ h h' => h.trans h'
theorem rl_tr : ∀ a b c, x.RL a b → x.RL b c → x.RL a c := fun _ _ _ h h' => h.trans h'
theorem rm0_tr : ∀ a b c, x.RM0 a b → x.RM0 b c → x.RM0 a c := fun _ _ _ h h' => h.trans h'
theorem rm_tr : ∀ a b c, x.RM a b → x.RM b c → x.RM a c := fun _ _ _ h h' => h.trans h'
theorem WSit.rely {τ : WT} (h : x.WSit P AnchS τ g w) (hr : x.WRel τ w w₁) : x.WSit P AnchS τ g w₁ := by
  cases τ with
  | sel m => exact GD.rely rk_tr h hr
  | wait => exact h
  | job q m => exact ⟨h.1, GD.rely rk_tr h.2 hr⟩
  | run q b m => exact ⟨h.1, GD.rely rk_tr h.2 hr⟩
  | fin m => exact GD.rely rk_tr h hr
  | rel d m => exact GD.rely rk_tr h hr
  | last d m => exact GD.rely rl_tr h hr
  | quit d m => exact h
theorem MSit.rely {τ : MT} (h : x.MSit P AnchS Anch τ g w) (hr : x.MRel τ w w₁) : x.MSit P AnchS Anch τ g w₁ := by
  cases τ with
  | sp r d m => exact ⟨h.1, GD.rely atRel_trans h.2 hr⟩
  | snd r d m => exact ⟨h.1, GD.rely rm_tr h.2 hr⟩
  | prk r => exact h
  | anch V d m => exact ⟨h.1, GD.rely rm_tr h.2 hr⟩
  | w3 d m => exact GD.rely rm0_tr h hr
  | blk d =>
    obtain ⟨g₀, e, h⟩ := h
    exact ⟨g₀, e, fun w₂ h₂ => h w₂ (hr.trans h₂)⟩
  | fin d m => exact GD.rely rm_tr h hr
theorem WRel.at {τ : WT} (w : World) (d : Nat) : x.WRel τ w (w.at d) := by
  cases τ with
  | last => exact RL.at w d
  | quit => trivial
  | _ => exact RK.at w d
theorem MRel.at {τ : MT} (w : World) (d : Nat) : x.MRel τ w (w.at d) := by
  cases τ with
  | sp => exact ⟨d, rfl⟩
  | prk => trivial
  | w3 => exact RM0.at w d
  | blk => exact RM0.at w d
  | _ => exact RM.at w d
theorem WSit.status (K : x.WkS P AnchS) {τ : WT} (h : x.WSit P AnchS τ g w) : (τ = .wait ∧ g.status = .blocked) ∨ (τ ≠ .wait ∧ (g.status = .running ∨ (g.status = .finished ∧ ∃ d m, τ = .quit d m))) := by
  cases τ with
  | sel m => exact .inr ⟨by simp, .inl (GD.running RK.refl (fun _ _ _ h => K.run _ h.2) h)⟩
  | wait =>
    obtain ⟨g₂, rfl, _⟩ := h
    exact .inl ⟨rfl, rfl⟩
  | job q m => exact .inr ⟨by simp, .inl (GD.running RK.refl (fun _ _ _ h => h.2.1) h.2)⟩
  | run q b m => exact .inr ⟨by simp, .inl (GD.running RK.refl (fun _ _ _ h => K.run _ h.2.1) h.2)⟩
  | fin m => exact .inr ⟨by simp, .inl (GD.running RK.refl (fun _ _ _ h => h.2.1) h)⟩
  | rel d m => exact .inr ⟨by simp, .inl (GD.running RK.refl (fun _ _ _ h => h.2.1) h)⟩
  | last d m => exact .inr ⟨by simp, .inl (GD.running RL.refl (fun _ _ _ h => h.2.1) h)⟩
  | quit d m => exact .inr ⟨by simp, (QuitsD.status h).imp id fun e => ⟨e, d, m, rfl⟩⟩
theorem atW_status {V d : Nat} (h : x.AtW P Anch V d g w) : g.status = .running := by
  induction V with
  | zero => exact h.2.1
  | succ V ih => exact h.elim ih fun h => h.1
theorem mSnd_status {r d : Nat} (h : x.MSnd P Anch r d g w) : g.status = .running := by
  cases r with
  | zero => exact h.2.1
  | succ r => exact h.2.1
theorem mSp_status {r d : Nat} (h : x.MSp P Anch AnchS r d g w) : g.status = .running := by
  cases r with
  | zero => exact h.2.1
  | succ r => exact h.2.1
theorem MSit.status {τ : MT} (h : x.MSit P AnchS Anch τ g w) : (((∃ r, τ = .prk r) ∨ ∃ d, τ = .blk d) ∧ g.status = .blocked) ∨ ((∀ r, τ ≠ .prk r) ∧ (∀ d, τ ≠ .blk d) ∧ g.status = .running) := by
  cases τ with
  | sp r d m => exact .inr ⟨by simp, by simp, GD.running atRel_refl (fun _ _ _ h => mSp_status h) h.2⟩
  | snd r d m => exact .inr ⟨by simp, by simp, GD.running RM.refl (fun _ _ _ h => mSnd_status h) h.2⟩
  | prk r =>
    obtain ⟨r', _, _, g₂, rfl, _⟩ := h
    exact .inl ⟨.inl ⟨r, rfl⟩, rfl⟩
  | anch V d m => exact .inr ⟨by simp, by simp, GD.running RM.refl (fun _ _ _ h => atW_status h) h.2⟩
  | w3 d m => exact .inr ⟨by simp, by simp, GD.running RM0.refl (fun _ _ _ h => h.1) h⟩
  | blk d =>
    obtain ⟨g₀, rfl, _⟩ := h
    exact .inl ⟨.inr ⟨d, rfl⟩, rfl⟩
  | fin d m => exact .inr ⟨by simp, by simp, GD.running RM.refl (fun _ _ _ h => h.2.1) h⟩
end
end Ph
end Go.Proofs.YtacimedkchjfnaaGreat
end

section
/-! The phase: the invariant; what it says of the others where one goroutine takes a step. -/
namespace Go.Proofs.YtacimedkchjfnaaGreat
set_option linter.unusedSimpArgs false
set_option linter.unusedVariables false
open Go.Conc
open Go.ConcR (KK wgBlock WgAt stA smA rd wr deafBehind_cons deafBehind_one)
open Go.ConcN (WgLive PermW fork_knows RelBy upd upd_same upd_ne sumTo sumTo_upd sumTo_congr)
theorem get_ms {gs : Array Goroutine} (f : Goroutine → Goroutine) {a b : Nat} (y : Goroutine) (hb : a ≠ b) : ((gs.map f).setIfInBounds a y)[b]? = (gs[b]?).map f := by
  rw [Array.getElem?_setIfInBounds_ne hb, Array.getElem?_map]
theorem get_ms_same {gs : Array Goroutine} (f : Goroutine → Goroutine) {a : Nat} (y : Goroutine) (ha : a < gs.size) : ((gs.map f).setIfInBounds a y)[a]? = some y := by
  rw [Array.getElem?_setIfInBounds_self_of_lt (by simpa using ha)]
namespace Ph
section
variable (x : Ph) (P : Program) (AnchS Anch : Goroutine → Prop)
structure Com (j : Nat) (gs : Array Goroutine) (w : World) (t : Trace) (D : Nat → WT) (tag : MT) (q : Nat → Nat) (ob oj : Nat → Option Nat) : Prop where
  size : gs.size = x.c + j
  old : ∀ i g, 0 < i → i < x.c → gs[i]? = some g → QuitsD P (q i) (Deaf t i) g
  above : ∀ k, x.c + j ≤ k → Deaf t k = 0
  wk : ∀ i, i < j → ∃ g, gs[x.c + i]? = some g ∧ x.WSit P AnchS (D i) g w
  wdeaf : ∀ i, i < j → Deaf t (x.c + i) = (D i).deaf
  d0 : Deaf t 0 = tag.deaf
  wi : x.WI w
  jch : ∃ s r, w.heap[x.J]? = some (.chan 0 #[] false s r false)
  ech : ∃ s r, w.heap[x.E]? = some (.chan 0 #[] tag.closed s r false)
  blkb : ∀ i b, i < j → (D i).blk = some b → x.L0 ≤ b ∧ b < w.heap.size ∧ ob b = some i
  hasb : ∀ i k, i < j → (D i).has = some k → k < tag.sent x.N ∧ oj k = some i
  done : ∀ k, k < tag.sent x.N → (∃ i, i < j ∧ (D i).has = some k) ∨ w.cell? (x.oc k) = some (x.val k)
  obs : ∀ b i, ob b = some i → b < w.heap.size ∧ i < j
  ojs : ∀ k i, oj k = some i → k < tag.sent x.N ∧ i < j
  ti : x.TI ob oj j t
  seen : ∀ op ∈ t, op.act.low w.heap.size
  rel : ∀ i, i < j → (D i).stage ≤ 4 → ∃ r, RelBy (stA x.Wg) t (x.c + i) r
  nw : tag.closed = true → ∀ i, i < j → D i ≠ .wait
  beg : j = tag.begun
end
section
variable {x : Ph} {P : Program} {AnchS Anch : Goroutine → Prop} {j : Nat} {gs : Array Goroutine} {w w' : World} {t : Trace} {D : Nat → WT} {tag : MT} {q : Nat → Nat} {ob oj : Nat → Option Nat} {a g g' : Goroutine} {es : Array Event}

theorem Com.at (h : x.Com P AnchS j gs w t D tag q ob oj) (d : Nat) : x.Com P AnchS j gs (w.at d) t D tag q ob oj :=
  ⟨h.size, h.old, h.above, fun i hi => let ⟨g, h1, h2⟩ := h.wk i hi; ⟨g, h1, h2.rely (WRel.at w d)⟩, h.wdeaf, h.d0, wi_at h.wi d, h.jch, h.ech, h.blkb, h.hasb, h.done, h.obs, h.ojs, h.ti, h.seen, h.rel, h.nw, h.beg⟩

/-- Who is let try again: goroutine 0. -/
theorem MSit.wake (h : x.MSit P AnchS Anch tag a w) (hJ : ∃ s r, w.heap[x.J]? = some (.chan 0 #[] false s r false)) (b b' : Goroutine) :
    ∃ tag', x.MSit P AnchS Anch tag' (woken P b b' w a) w ∧ (tag' = tag ∨ ∃ d, tag = .blk d ∧ tag' = .w3 d 0) := by
  rcases h.status with ⟨⟨r, rfl⟩ | ⟨d, rfl⟩, hs⟩ | ⟨_, _, hs⟩
  · obtain ⟨r', h1, h2, g₂, rfl, h3⟩ := h
    obtain ⟨s, rr, hJ⟩ := hJ
    refine ⟨.prk r, ⟨r', h1, h2, g₂, ?_, h3⟩, .inl rfl⟩
    exact woken_send_open _ _ hJ
  · by_cases hw : (mayWake P b && b'.status != .blocked && b'.status != .waiting) = true
    · obtain ⟨g₀, rfl, h⟩ := h
      have h0 := h w (RM0.refl w)
      have e : woken P b b' w { g₀ with status := .blocked } = g₀ := by
        unfold woken
        rw [if_pos hw]
        obtain ⟨h1, h2, _⟩ := h0
        cases g₀
        simp only at h1 h2
        subst h1 h2
        rfl
      refine ⟨.w3 d 0, ?_, .inr ⟨d, rfl, rfl⟩⟩
      rw [e]
      exact GD.stop h
    · refine ⟨.blk d, ?_, .inl rfl⟩
      unfold woken
      rw [if_neg hw]
      exact h
  · refine ⟨tag, ?_, .inl rfl⟩
    rw [woken_run hs]
    exact h
/-- .. a worker: only if the end is closed and it waits. -/
theorem WSit.wake (K : x.WkS P AnchS) {τ : WT} (h : x.WSit P AnchS τ g w) (hJ : ∃ s r, w.heap[x.J]? = some (.chan 0 #[] false s r false)) (hE : τ = .wait → ∃ s r, w.heap[x.E]? = some (.chan 0 #[] false s r false)) (b b' : Goroutine) : woken P b b' w g = g := by
  rcases h.status K with ⟨rfl, hs⟩ | ⟨_, hs⟩
  · obtain ⟨g₂, rfl, _, _⟩ := h
    obtain ⟨s, r, hJ⟩ := hJ
    obtain ⟨s', r', hE⟩ := hE rfl
    unfold woken
    split
    · refine again_all_open fun cc hcc => ?_
      simp only [cs, List.mem_toArray, List.mem_cons, List.not_mem_nil, or_false] at hcc
      rcases hcc with rfl | rfl
      · exact ⟨_, _, _, _, _, _, _, rfl, hJ⟩
      · exact ⟨_, _, _, _, _, _, _, rfl, hE⟩
    · rfl
  · unfold woken
    split
    · exact again_running _ (hs.imp id fun h => h.1)
    · rfl
theorem Com.awake (K : x.WkS P AnchS) (h : x.Com P AnchS j gs w t D tag q ob oj) (ha : gs[0]? = some a) (hm : x.MSit P AnchS Anch tag a w) : ∀ g ∈ gs, awake g := by
  intro g hg
  obtain ⟨i, hi, rfl⟩ := Array.mem_iff_getElem.1 hg
  have hgi := Array.getElem?_eq_getElem hi
  rcases Nat.eq_zero_or_pos i with rfl | hpos
  · have : gs[0] = a := by simpa [hgi] using ha
    rw [this]
    rcases hm.status with ⟨_, hs⟩ | ⟨_, _, hs⟩
    · exact awake_of (.inr (.inl hs))
    · exact awake_of (.inl hs)
  · rcases Nat.lt_or_ge i x.c with hlt | hge
    · exact awake_of ((h.old i _ hpos hlt hgi).status.elim .inl fun y => .inr (.inr y))
    · have hj : i - x.c < j := by have := h.size; omega
      obtain ⟨g, h1, h2⟩ := h.wk (i - x.c) hj
      rw [show x.c + (i - x.c) = i by omega] at h1
      have : gs[i] = g := by rw [h1] at hgi; exact (Option.some.inj hgi).symm
      rw [this]
      rcases h2.status K with ⟨_, hs⟩ | ⟨_, hs | ⟨hs, _⟩⟩
      · exact awake_of (.inr (.inl hs))
      · exact awake_of (.inl hs)
      · exact awake_of (.inr (.inr hs))
end
end Ph
end Go.Proofs.YtacimedkchjfnaaGreat
end

section
/-! The phase: what a step leaves of the invariant: a worker's, goroutine 0's, an elder leaver's. -/
namespace Go.Proofs.YtacimedkchjfnaaGreat
set_option linter.unusedSimpArgs false
set_option linter.unusedVariables false
open Go.Conc
open Go.ConcR (KK wgBlock WgAt stA smA rd wr deafBehind_cons deafBehind_one)
open Go.ConcN (WgLive PermW fork_knows RelBy upd upd_same upd_ne sumTo sumTo_upd sumTo_congr)
theorem mute_norel {e : Event} (h : e.mute = true) (a : Addr) : MemAct.ofEvent e ≠ .mark (.release a) := by
  obtain ⟨loc, wr, sy⟩ := e
  cases loc with
  | mark m => cases m <;> simp_all [Event.mute, MemAct.ofEvent]
  | _ => simp_all [Event.mute]
theorem lt_size_of_get {α : Type} {gs : Array α} {k : Nat} {y : α} (h : gs[k]? = some y) : k < gs.size := (Array.getElem?_eq_some_iff.1 h).1
namespace Ph
section
variable {x : Ph} {P : Program} {AnchS Anch : Goroutine → Prop} {j : Nat} {gs : Array Goroutine} {w w' : World} {t : Trace} {D : Nat → WT} {tag : MT} {q : Nat → Nat} {ob oj : Nat → Option Nat} {a g g' : Goroutine} {es : Array Event}

theorem tag_same {tag tag' : MT} (h : tag' = tag ∨ ∃ d, tag = .blk d ∧ tag' = .w3 d 0) : tag'.deaf = tag.deaf ∧ (∀ N, tag'.sent N = tag.sent N) ∧ tag'.closed = tag.closed ∧ tag'.begun = tag.begun := by
  rcases h with rfl | ⟨d, rfl, rfl⟩
  · exact ⟨rfl, fun _ => rfl, rfl, rfl⟩
  · exact ⟨rfl, fun _ => rfl, rfl, rfl⟩

/-- Worker number i has gone on; of the others goroutine 0 alone may have been let try again. -/
theorem Com.coreW (G : x.Geo) (h : x.Com P AnchS j gs w t D tag q ob oj) {gs' : Array Goroutine} {tag' : MT} {u : Trace}
    {i : Nat} (hi : i < j) {τ' : WT} {ob' : Nat → Option Nat} (htag : tag' = tag ∨ ∃ d, tag = .blk d ∧ tag' = .w3 d 0)
    (hgz : gs'.size = gs.size) (hgi : gs'[x.c + i]? = some g') (hgo : ∀ k, 0 < k → k ≠ x.c + i → gs'[k]? = gs[k]?)
    (hW : ∀ k, k < j → k ≠ i → x.WRel (D k) w w') (hs' : x.WSit P AnchS τ' g' w') (hwi : x.WI w') (hsz : w.heap.size ≤ w'.heap.size)
    (hJ : w'.heap[x.J]? = w.heap[x.J]?) (hE : w'.heap[x.E]? = w.heap[x.E]?)
    (hob : ∀ b, ob' b = ob b ∨ (ob b = none ∧ ob' b = some i ∧ b < w'.heap.size))
    (hops : ∀ op ∈ u, op.g = x.c + i) (hok : ∀ op ∈ u, x.OkW ob' oj i op ∧ op.act.low w'.heap.size)
    (hdf : Deaf (t ++ u) (x.c + i) = τ'.deaf)
    (hrel : τ'.stage ≤ 4 → ∃ r, RelBy (stA x.Wg) (t ++ u) (x.c + i) r)
    (hblk : ∀ b, τ'.blk = some b → x.L0 ≤ b ∧ b < w'.heap.size ∧ ob' b = some i)
    (hhas : ∀ k, τ'.has = some k → (D i).has = some k)
    (hdone : ∀ k, (D i).has = some k → τ'.has = some k ∨ w'.cell? (x.oc k) = some (x.val k))
    (hcell : ∀ k, (D i).has ≠ some k → w'.cell? (x.oc k) = w.cell? (x.oc k)) (hwait : tag.closed = true → τ' ≠ .wait) :
    x.Com P AnchS j gs' w' (t ++ u) (upd D i τ') tag' q ob' oj := by
  have hc1 := G.c1
  have hJ' : ∃ s r, w'.heap[x.J]? = some (.chan 0 #[] false s r false) := by rw [hJ]; exact h.jch
  have hE' : ∃ s r, w'.heap[x.E]? = some (.chan 0 #[] tag.closed s r false) := by rw [hE]; exact h.ech
  obtain ⟨t1, t2, t3, t4⟩ := tag_same htag
  refine ⟨by rw [hgz, h.size], fun k gk hk hkc hgk => ?_, fun k hk => ?_, fun k hk => ?_, fun k hk => ?_, ?_, hwi, hJ', by rw [t3]; exact hE', fun k b hk hb => ?_, fun k m hk hb => ?_, fun k hk => ?_, fun b k hb => ?_, fun k m hk => ?_, ?_, ?_, fun k hk hst => ?_, fun hcl k hk => ?_, ?_⟩
  · rw [hgo k hk (by omega)] at hgk
    rw [Deaf_other t (by omega) _ hops]
    exact h.old k gk hk hkc hgk
  · rw [Deaf_other t (g := k) (g' := x.c + i) (by omega) _ hops]
    exact h.above k hk
  · by_cases hki : k = i
    · subst hki
      exact ⟨g', hgi, by rw [upd_same]; exact hs'⟩
    · obtain ⟨gk, h1, h2⟩ := h.wk k hk
      exact ⟨gk, by rw [hgo _ (by omega) (by omega), h1], by rw [upd_ne _ _ hki]; exact h2.rely (hW k hk hki)⟩
  · by_cases hki : k = i
    · subst hki
      rw [upd_same]
      exact hdf
    · rw [upd_ne _ _ hki, Deaf_other t (g := x.c + k) (g' := x.c + i) (by omega) _ hops]
      exact h.wdeaf k hk
  · rw [Deaf_other t (g := 0) (g' := x.c + i) (by omega) _ hops, t1]
    exact h.d0
  · by_cases hki : k = i
    · subst hki
      rw [upd_same] at hb
      exact hblk b hb
    · rw [upd_ne _ _ hki] at hb
      obtain ⟨h1, h2, h3⟩ := h.blkb k b hk hb
      refine ⟨h1, by omega, ?_⟩
      rcases hob b with e | ⟨e, _⟩
      · rw [e]; exact h3
      · rw [e] at h3; cases h3
  · rw [t2]
    by_cases hki : k = i
    · subst hki
      rw [upd_same] at hb
      exact h.hasb k m hk (hhas m hb)
    · rw [upd_ne _ _ hki] at hb
      exact h.hasb k m hk hb
  · rw [t2] at hk
    rcases h.done k hk with ⟨m, hm1, hm2⟩ | hd
    · by_cases hmi : m = i
      · subst hmi
        rcases hdone k hm2 with h1 | h1
        · exact .inl ⟨m, hm1, by rw [upd_same]; exact h1⟩
        · exact .inr h1
      · exact .inl ⟨m, hm1, by rw [upd_ne _ _ hmi]; exact hm2⟩
    · by_cases hh : (D i).has = some k
      · rcases hdone k hh with h1 | h1
        · exact .inl ⟨i, hi, by rw [upd_same]; exact h1⟩
        · exact .inr h1
      · right
        rw [hcell k hh]; exact hd
  · rcases hob b with e | ⟨e, e2, e3⟩
    · rw [e] at hb
      obtain ⟨h1, h2⟩ := h.obs b k hb
      exact ⟨by omega, h2⟩
    · rw [e2] at hb
      cases hb
      exact ⟨e3, hi⟩
  · rw [t2]
    exact h.ojs k m hk
  · exact (h.ti.grow (ob' := ob') (oj' := oj) (fun b => (hob b).imp id fun e => e.1) (fun _ => .inl rfl)).appW G hi fun op ho => (hok op ho).1
  · exact seen_app (fun op ho => MemAct.low_mono hsz (h.seen op ho)) fun op ho => (hok op ho).2
  · by_cases hki : k = i
    · subst hki
      rw [upd_same] at hst
      exact hrel hst
    · rw [upd_ne _ _ hki] at hst
      obtain ⟨r, hr⟩ := h.rel k hk hst
      exact ⟨r, hr.appOther hops (by omega)⟩
  · rw [t3] at hcl
    by_cases hki : k = i
    · subst hki
      rw [upd_same]; exact hwait hcl
    · rw [upd_ne _ _ hki]; exact h.nw hcl k hk
  · rw [t4]; exact h.beg

/-- WHATEVER STEP OF WORKER NUMBER i THAT IS NO COMMUNICATION. -/
theorem Com.stepW (G : x.Geo) (K : x.WkS P AnchS) (h : x.Com P AnchS j gs w t D tag q ob oj) (ha : gs[0]? = some a) (hm : x.MSit P AnchS Anch tag a w)
    {i : Nat} (hi : i < j) (hg : gs[x.c + i]? = some g) {τ' : WT} {ob' : Nat → Option Nat}
    (hM : x.MRel tag w w') (hW : ∀ k, k < j → k ≠ i → x.WRel (D k) w w') (hs' : x.WSit P AnchS τ' g' w') (hwi : x.WI w') (hsz : w.heap.size ≤ w'.heap.size)
    (hJ : w'.heap[x.J]? = w.heap[x.J]?) (hE : w'.heap[x.E]? = w.heap[x.E]?)
    (hob : ∀ b, ob' b = ob b ∨ (ob b = none ∧ ob' b = some i ∧ b < w'.heap.size))
    (hok : ∀ fn pos, ∀ e ∈ es, x.OkW ob' oj i { g := x.c + i, fn, pos, act := .ofEvent e } ∧ (MemAct.ofEvent e).low w'.heap.size)
    (hdf : deafBehind (D i).deaf es = τ'.deaf)
    (hrel : τ'.stage ≤ 4 → ∃ r, RelBy (stA x.Wg) (t ++ MemOp.ofEvents (x.c + i) g.frame.fn g.frame.place es) (x.c + i) r)
    (hblk : ∀ b, τ'.blk = some b → x.L0 ≤ b ∧ b < w'.heap.size ∧ ob' b = some i)
    (hhas : ∀ k, τ'.has = some k → (D i).has = some k)
    (hdone : ∀ k, (D i).has = some k → τ'.has = some k ∨ w'.cell? (x.oc k) = some (x.val k))
    (hcell : ∀ k, (D i).has ≠ some k → w'.cell? (x.oc k) = w.cell? (x.oc k)) (hwait : τ' ≠ .wait) :
    ∃ tag' a', ((gs.map (woken P g g' w')).setIfInBounds (x.c + i) g')[0]? = some a' ∧ x.MSit P AnchS Anch tag' a' w' ∧ (tag' = tag ∨ ∃ d, tag = .blk d ∧ tag' = .w3 d 0) ∧
      x.Com P AnchS j ((gs.map (woken P g g' w')).setIfInBounds (x.c + i) g') w' (t ++ MemOp.ofEvents (x.c + i) g.frame.fn g.frame.place es) (upd D i τ') tag' q ob' oj := by
  have hc1 := G.c1
  have hlt : x.c + i < gs.size := by rw [h.size]; omega
  have hJ' : ∃ s r, w'.heap[x.J]? = some (.chan 0 #[] false s r false) := by rw [hJ]; exact h.jch
  obtain ⟨tag', hm', htag⟩ := (hm.rely hM).wake hJ' g g'
  have hops : ∀ op ∈ MemOp.ofEvents (x.c + i) g.frame.fn g.frame.place es, op.g = x.c + i := fun op ho => by obtain ⟨e, _, rfl⟩ := Go.Conc.mem_ofEvents ho; rfl
  refine ⟨tag', woken P g g' w' a, by rw [get_ms _ _ (by omega), ha]; rfl, hm', htag, ?_⟩
  refine h.coreW G hi htag (by simp) (get_ms_same _ _ hlt) (fun k hk0 hk => ?_) hW hs' hwi hsz hJ hE hob hops (fun op ho => ?_) (by rw [Deaf_own, h.wdeaf i hi]; exact hdf) hrel hblk hhas hdone hcell fun _ => hwait
  · rw [get_ms _ _ (Ne.symm hk)]
    cases hgk : gs[k]? with
    | none => rfl
    | some y =>
      rw [Option.map_some]
      rcases Nat.lt_or_ge k x.c with hlt' | hge
      · rw [woken_quitsD (h.old k y hk0 hlt' hgk)]
      · have hkj : k - x.c < j := by have := lt_size_of_get hgk; rw [h.size] at this; omega
        obtain ⟨gk, h1, h2⟩ := h.wk (k - x.c) hkj
        rw [show x.c + (k - x.c) = k by omega, hgk] at h1
        obtain rfl := Option.some.inj h1
        have h3 := h2.rely (hW (k - x.c) hkj (by omega))
        rw [h3.wake K hJ' fun e => ?_]
        obtain ⟨s, r, h5⟩ := h.ech
        refine ⟨s, r, ?_⟩
        have : tag.closed = false := by
          cases hcl : tag.closed with
          | false => rfl
          | true => exact absurd e (h.nw hcl _ hkj)
        rw [hE, h5, this]
  · obtain ⟨e, he, rfl⟩ := Go.Conc.mem_ofEvents ho
    exact hok _ _ e he

/-- WHATEVER STEP OF GOROUTINE 0's THAT HANDS OVER NO JOB AND STARTS NOBODY. 'D'' lets the waiting try again, where the end is closed. -/
theorem Com.core0 (G : x.Geo) (h : x.Com P AnchS j gs w t D tag q ob oj) {gs' : Array Goroutine} {u : Trace} {tag' : MT} {D' : Nat → WT}
    (hgz : gs'.size = gs.size) (hold : ∀ k, 0 < k → k < x.c → gs'[k]? = gs[k]?)
    (hwk : ∀ k, k < j → ∃ g, gs'[x.c + k]? = some g ∧ x.WSit P AnchS (D' k) g w')
    (hD : ∀ k, k < j → (D' k).deaf = (D k).deaf ∧ (D' k).stage = (D k).stage ∧ (D' k).has = (D k).has ∧ (D' k).blk = (D k).blk)
    (hwi : x.WI w') (hsz : w'.heap.size = w.heap.size) (hJ : w'.heap[x.J]? = w.heap[x.J]?) (hE : ∃ s r, w'.heap[x.E]? = some (.chan 0 #[] tag'.closed s r false))
    (hops : ∀ op ∈ u, op.g = 0) (hok : ∀ op ∈ u, x.Ok0 op ∧ op.act.low w'.heap.size)
    (hdf : Deaf (t ++ u) 0 = tag'.deaf) (hsent : tag'.sent x.N = tag.sent x.N) (hcell : w'.heap[x.C]? = w.heap[x.C]?)
    (hnw : tag'.closed = true → ∀ k, k < j → D' k ≠ .wait) (hbeg : j = tag'.begun) :
    x.Com P AnchS j gs' w' (t ++ u) D' tag' q ob oj := by
  have hc1 := G.c1
  refine ⟨by rw [hgz, h.size], fun k gk hk hkc hgk => ?_, fun k hk => ?_, hwk, fun k hk => ?_, hdf, hwi, by rw [hJ]; exact h.jch, hE, fun k b hk hb => ?_, fun k m hk hb => ?_, fun k hk => ?_, fun b k hb => by rw [hsz]; exact h.obs b k hb, fun k m hk => by rw [hsent]; exact h.ojs k m hk, ?_, ?_, fun k hk hst => ?_, hnw, hbeg⟩
  · rw [hold k hk hkc] at hgk
    rw [Deaf_other t (by omega) _ hops]
    exact h.old k gk hk hkc hgk
  · rw [Deaf_other t (g := k) (g' := 0) (by omega) _ hops]
    exact h.above k hk
  · rw [Deaf_other t (g := x.c + k) (g' := 0) (by omega) _ hops, (hD k hk).1]
    exact h.wdeaf k hk
  · rw [(hD k hk).2.2.2] at hb
    rw [hsz]
    exact h.blkb k b hk hb
  · rw [(hD k hk).2.2.1] at hb
    rw [hsent]
    exact h.hasb k m hk hb
  · rw [hsent] at hk
    rcases h.done k hk with ⟨m, h1, h2⟩ | h1
    · exact .inl ⟨m, h1, by rw [(hD m h1).2.2.1]; exact h2⟩
    · exact .inr ((cell_of_block hcell k).trans h1)
  · exact h.ti.app0 G fun op ho => (hok op ho).1
  · exact seen_app (fun op ho => MemAct.low_mono (by omega) (h.seen op ho)) fun op ho => (hok op ho).2
  · rw [(hD k hk).2.1] at hst
    obtain ⟨r, hr⟩ := h.rel k hk hst
    exact ⟨r, hr.appOther hops (by omega)⟩

/-- .. the workers' limb, where nobody is let try again. -/
theorem Com.wk0 (G : x.Geo) (K : x.WkS P AnchS) (h : x.Com P AnchS j gs w t D tag q ob oj) {a' : Goroutine} (hW : ∀ k, k < j → x.WRel (D k) w w')
    (hJ : w'.heap[x.J]? = w.heap[x.J]?) (hE : w'.heap[x.E]? = w.heap[x.E]?) : ∀ k, k < j → ∃ g, ((gs.map (woken P a a' w')).setIfInBounds 0 a')[x.c + k]? = some g ∧ x.WSit P AnchS (D k) g w' := by
  intro k hk
  have hc1 := G.c1
  obtain ⟨gk, h1, h2⟩ := h.wk k hk
  have h3 := h2.rely (hW k hk)
  refine ⟨gk, ?_, h3⟩
  rw [get_ms _ _ (by omega), h1]
  rw [Option.map_some, h3.wake K (by rw [hJ]; exact h.jch) fun e => ?_]
  obtain ⟨s, r, h5⟩ := h.ech
  refine ⟨s, r, ?_⟩
  have : tag.closed = false := by
    cases hcl : tag.closed with
    | false => rfl
    | true => exact absurd e (h.nw hcl k hk)
  rw [hE, h5, this]

/-- AN ELDER LEAVER SLIPS. -/
theorem Com.slip (G : x.Geo) (K : x.WkS P AnchS) (h : x.Com P AnchS j gs w t D tag q ob oj) (ha : gs[0]? = some a) (hm : x.MSit P AnchS Anch tag a w)
    {i m : Nat} (h0 : 0 < i) (hi : i < x.c) (hg : gs[i]? = some g) (hmu : ∀ e ∈ es, e.mute = true) (hq : QuitsD P m (deafBehind (Deaf t i) es) g') :
    ∃ tag' a', ((gs.map (woken P g g' w)).setIfInBounds i g')[0]? = some a' ∧ x.MSit P AnchS Anch tag' a' w ∧ (tag' = tag ∨ ∃ d, tag = .blk d ∧ tag' = .w3 d 0) ∧
      x.Com P AnchS j ((gs.map (woken P g g' w)).setIfInBounds i g') w (t ++ MemOp.ofEvents i g.frame.fn g.frame.place es) D tag' (upd q i m) ob oj := by
  have hc1 := G.c1
  have hlt : i < gs.size := by rw [h.size]; omega
  obtain ⟨tag', hm', htag⟩ := hm.wake h.jch g g'
  obtain ⟨t1, t2, t3, t4⟩ := tag_same htag
  have hops : ∀ op ∈ MemOp.ofEvents i g.frame.fn g.frame.place es, op.g = i := fun op ho => by obtain ⟨e, _, rfl⟩ := Go.Conc.mem_ofEvents ho; rfl
  have hnt : ∀ op ∈ MemOp.ofEvents i g.frame.fn g.frame.place es, op.act.touch? = none ∧ op.act ≠ .mark (.release (stA x.Wg)) ∧ op.act.low w.heap.size := fun op ho => by
    obtain ⟨e, he, rfl⟩ := Go.Conc.mem_ofEvents ho
    refine ⟨touch_mute (hmu e he), fun e' => ?_, low_mute (hmu e he) _⟩
    exact mute_norel (hmu e he) _ e'
  refine ⟨tag', woken P g g' w a, by rw [get_ms _ _ (by omega), ha]; rfl, hm', htag, ?_⟩
  refine ⟨by simp [h.size], fun k gk hk hkc hgk => ?_, fun k hk => ?_, fun k hk => ?_, fun k hk => ?_, ?_, h.wi, h.jch, by rw [t3]; exact h.ech, h.blkb, by simpa only [t2] using h.hasb, by simpa only [t2] using h.done, h.obs, by simpa only [t2] using h.ojs, ?_, ?_, fun k hk hst => ?_, by simpa only [t3] using h.nw, ?_⟩
  · by_cases hki : i = k
    · subst hki
      rw [get_ms_same _ _ hlt] at hgk
      obtain rfl := Option.some.inj hgk
      rw [upd_same, Deaf_own]
      exact hq
    · rw [get_ms _ _ hki] at hgk
      obtain ⟨y, hy, rfl⟩ := Option.map_eq_some_iff.1 hgk
      have hqk := h.old k y hk hkc hy
      rw [woken_quitsD hqk, upd_ne _ _ (Ne.symm hki), Deaf_other t hki _ hops]
      exact hqk
  · rw [Deaf_other t (g := k) (g' := i) (by omega) _ hops]
    exact h.above k hk
  · obtain ⟨gk, h1, h2⟩ := h.wk k hk
    refine ⟨gk, ?_, h2⟩
    rw [get_ms _ _ (by omega), h1]
    rw [Option.map_some, h2.wake K h.jch fun e => ?_]
    obtain ⟨s, r, h5⟩ := h.ech
    refine ⟨s, r, ?_⟩
    have : tag.closed = false := by
      cases hcl : tag.closed with
      | false => rfl
      | true => exact absurd e (h.nw hcl k hk)
    rw [h5, this]
  · rw [Deaf_other t (g := x.c + k) (g' := i) (by omega) _ hops]
    exact h.wdeaf k hk
  · rw [Deaf_other t (g := 0) (g' := i) (by omega) _ hops, t1]
    exact h.d0
  · refine h.ti.mute fun op ho => ⟨(hnt op ho).1, (hnt op ho).2.1, ?_⟩
    rw [hops op ho]; omega
  · exact seen_app h.seen fun op ho => (hnt op ho).2.2
  · obtain ⟨r, hr⟩ := h.rel k hk hst
    exact ⟨r, hr.appOther hops (by omega)⟩
  · rw [t4]; exact h.beg
end
end Ph
end Go.Proofs.YtacimedkchjfnaaGreat
end

section
/-! The phase: the group's state; the whole invariant and its measure; the idle steps of all. -/
namespace Go.Proofs.YtacimedkchjfnaaGreat
set_option linter.unusedSimpArgs false
set_option linter.unusedVariables false
open Go.Conc
open Go.ConcR (KK wgBlock WgAt stA smA rd wr deafBehind_cons deafBehind_one)
open Go.ConcN (WgLive PermW fork_knows RelBy upd upd_same upd_ne sumTo sumTo_upd sumTo_congr le_sumTo)
def isW : MT → Prop
  | .w3 .. => True
  | .blk _ => True
  | _ => False
def rank (N : Nat) : MT → Nat
  | .sp r _ _ => 4 * N + 200 + 16 * r
  | tag => tag.phi
def cnts (j : Nat) (D : Nat → WT) : Nat := sumTo j fun i => (D i).cnt
def Early (j : Nat) (D : Nat → WT) : Prop := ∀ i, i < j → 6 ≤ (D i).stage
def NoLast (j : Nat) (D : Nat → WT) : Prop := ∀ i, i < j → (D i).stage ≠ 3
def AllQuit (j : Nat) (D : Nat → WT) : Prop := ∀ i, i < j → (D i).stage = 1
namespace Ph
section
variable (x : Ph) (P : Program) (AnchS Anch : Goroutine → Prop)
inductive Mode (j : Nat) (D : Nat → WT) (w : World) : MT → Prop
  | sp {r d m : Nat} : Early j D → Mode j D w (.sp r d m)
  | snd {r d m : Nat} : Early j D → WgAt x.ty x.Wg w (((3 : Nat) : Int) * KK) 0 → Mode j D w (.snd r d m)
  | prk {r : Nat} : Early j D → (∀ i, i < j → D i ≠ .wait) → WgAt x.ty x.Wg w (((3 : Nat) : Int) * KK) 0 → Mode j D w (.prk r)
  | anch {V d m : Nat} : NoLast j D → cnts j D ≤ V → WgAt x.ty x.Wg w ((cnts j D : Int) * KK) 0 → Mode j D w (.anch V d m)
  | reg {tag : MT} : isW tag → NoLast j D → 1 ≤ cnts j D → WgAt x.ty x.Wg w ((cnts j D : Int) * KK + 1) 0 → Mode j D w tag
  | last {tag : MT} (L : Nat) : isW tag → L < j → (D L).stage = 3 → (∀ i, i < j → i ≠ L → (D i).stage = 1) → (∃ st, WgAt x.ty x.Wg w st 0) → Mode j D w tag
  | sema {d m : Nat} : AllQuit j D → WgAt x.ty x.Wg w 0 1 → Mode j D w (.w3 d m)
  | fin {d m : Nat} : AllQuit j D → WgAt x.ty x.Wg w 0 0 → Mode j D w (.fin d m)
def meas (N c j : Nat) (D : Nat → WT) (tag : MT) (q : Nat → Nat) : Nat × Nat := (rank N tag + sumTo j fun i => (D i).stage, tag.fuel + 2 * (sumTo j fun i => (D i).fuel) + 2 * sumTo c q)
def Inv (μ : Nat × Nat) (m : Machine) (t : Trace) : Prop :=
  ∃ (gs : Array Goroutine) (w : World) (sl : Option (Nat × Nat)) (j : Nat) (D : Nat → WT) (tag : MT) (q : Nat → Nat) (ob oj : Nat → Option Nat) (a : Goroutine),
    m = crowd gs w sl ∧ gs[0]? = some a ∧ x.MSit P AnchS Anch tag a w ∧ x.Com P AnchS j gs w t D tag q ob oj ∧ x.Mode j D w tag ∧ μ = meas x.N x.c j D tag q
/-- What the phase ends in. -/
def Done (m : Machine) (t : Trace) : Prop :=
  ∃ (gs : Array Goroutine) (w : World) (sl : Option (Nat × Nat)) (q : Nat → Nat) (a : Goroutine),
    m = crowd gs w sl ∧ gs.size = x.c + 3 ∧ gs[0]? = some a ∧ Anch a ∧ Leavers P t gs q ∧ Past (fun l => x.Shun l ∨ x.Sh l) w.heap.size t ∧ x.WI w ∧ ∀ k, k < x.N → w.cell? (x.oc k) = some (x.val k)
def Lt2 (a b : Nat × Nat) : Prop := Prod.Lex (· < ·) (· < ·) a b
def Nxt (μ : Nat × Nat) (t : Trace) (r : Stepped × Array MemOp) : Prop :=
  ∃ m' ops, r = (.next m', ops) ∧ (x.Done P Anch m' (t ++ ops) ∨ ∃ μ', Lt2 μ' μ ∧ x.Inv P AnchS Anch μ' m' (t ++ ops))
end
section
variable {x : Ph} {P : Program} {AnchS Anch : Goroutine → Prop} {j : Nat} {gs : Array Goroutine} {w w' : World} {t : Trace} {D D' : Nat → WT} {tag tag' : MT} {q : Nat → Nat} {ob oj : Nat → Option Nat} {a g g' : Goroutine} {es : Array Event} {sl : Option (Nat × Nat)}

theorem cnts_congr (h : ∀ i, i < j → (D' i).stage = (D i).stage) : cnts j D' = cnts j D := sumTo_congr fun i hi => by simp only [WT.cnt, h i hi]
theorem Mode.keep (h : x.Mode j D w tag) (htag : tag' = tag ∨ ∃ d, tag = .blk d ∧ tag' = .w3 d 0) (hD : ∀ i, i < j → (D' i).stage = (D i).stage) (hw : ∀ i, i < j → D' i = .wait → D i = .wait)
    (e : w'.heap[x.Wg]? = w.heap[x.Wg]?) : x.Mode j D' w' tag' := by
  have e1 : Early j D → Early j D' := fun h i hi => by rw [hD i hi]; exact h i hi
  have e2 : NoLast j D → NoLast j D' := fun h i hi => by rw [hD i hi]; exact h i hi
  have e3 : AllQuit j D → AllQuit j D' := fun h i hi => by rw [hD i hi]; exact h i hi
  have e4 := cnts_congr hD
  have ht : isW tag → isW tag' := fun h => by rcases htag with rfl | ⟨d, rfl, rfl⟩ <;> exact h
  have same : (∀ d, tag ≠ .blk d) → tag' = tag := fun hn => by rcases htag with rfl | ⟨d, rfl, rfl⟩; rfl; exact absurd rfl (hn d)
  cases h with
  | sp h1 => obtain rfl := same (by simp); exact .sp (e1 h1)
  | snd h1 h2 => obtain rfl := same (by simp); exact .snd (e1 h1) (wgAt_of_block h2 e)
  | prk h1 h2 h3 => obtain rfl := same (by simp); exact .prk (e1 h1) (fun i hi y => h2 i hi (hw i hi y)) (wgAt_of_block h3 e)
  | anch h1 h2 h3 => obtain rfl := same (by simp); exact .anch (e2 h1) (by rw [e4]; exact h2) (by rw [e4]; exact wgAt_of_block h3 e)
  | reg h0 h1 h2 h3 => exact .reg (ht h0) (e2 h1) (by rw [e4]; exact h2) (by rw [e4]; exact wgAt_of_block h3 e)
  | last L h0 h1 h2 h3 h4 => exact .last L (ht h0) h1 (by rw [hD L h1]; exact h2) (fun i hi hn => by rw [hD i hi]; exact h3 i hi hn) (let ⟨st, h5⟩ := h4; ⟨st, wgAt_of_block h5 e⟩)
  | sema h1 h2 => obtain rfl := same (by simp); exact .sema (e3 h1) (wgAt_of_block h2 e)
  | fin h1 h2 => obtain rfl := same (by simp); exact .fin (e3 h1) (wgAt_of_block h2 e)
theorem rank_tag (htag : tag' = tag ∨ ∃ d, tag = .blk d ∧ tag' = .w3 d 0) (N : Nat) : rank N tag' = rank N tag ∧ tag'.fuel ≤ tag.fuel + 1 := by
  rcases htag with rfl | ⟨d, rfl, rfl⟩
  · exact ⟨rfl, Nat.le_succ _⟩
  · exact ⟨rfl, Nat.le_refl _⟩
/-- The measure, where worker number i alone has gone on. -/
theorem meas_upd {N c i : Nat} {τ' : WT} (hi : i < j) (htag : tag' = tag ∨ ∃ d, tag = .blk d ∧ tag' = .w3 d 0) (h : τ'.stage < (D i).stage ∨ (τ'.stage = (D i).stage ∧ τ'.fuel < (D i).fuel)) :
    Lt2 (meas N c j (upd D i τ') tag' q) (meas N c j D tag q) := by
  obtain ⟨r1, r2⟩ := rank_tag htag N
  have e1 := sumTo_upd D τ' WT.stage hi
  have e2 := sumTo_upd D τ' WT.fuel hi
  unfold meas
  rw [r1]
  rcases h with h | ⟨h1, h2⟩
  · exact Prod.Lex.left _ _ (by omega)
  · have : (sumTo j fun a => (upd D i τ' a).stage) = sumTo j fun a => (D a).stage := by omega
    rw [this]
    exact Prod.Lex.right _ (by omega)
theorem mrel_mk (h : x.RM0 w w') (hsp : ∀ r d m, tag = .sp r d m → AtRel w w') (hd : isW tag ∨ ∀ V, x.CL V w → x.CL V w') : x.MRel tag w w' := by
  cases tag with
  | sp r d m => exact hsp r d m rfl
  | snd r d m => exact ⟨h, hd.resolve_left (by simp [isW])⟩
  | prk r => trivial
  | anch V d m => exact ⟨h, hd.resolve_left (by simp [isW])⟩
  | w3 d m => exact h
  | blk d => exact h
  | fin d m => exact ⟨h, hd.resolve_left (by simp [isW])⟩
theorem mrel_refl (w : World) : x.MRel tag w w := MRel.at w w.drawn
theorem wrel_refl (τ : WT) (w : World) : x.WRel τ w w := WRel.at w w.drawn
/-- What a step that turns the blocks S leaves another worker. -/
theorem wrel_of_upd {S : Nat → Prop} {τ : WT} (hu : Upd S w w') (hwi : x.WI w) (hS : ∀ b, S b → ¬ x.Fx b) (hl : WgLive x.ty x.Wg w') (hp : x.Pay w') (ho : ∀ b, τ.blk = some b → b < w.heap.size ∧ ¬ S b)
    (hc : ∀ i, τ.has = some i → w'.cell? (x.oc i) = w.cell? (x.oc i)) (hL : τ.stage = 3 → w'.heap[x.Wg]? = w.heap[x.Wg]?) : x.WRel τ w w' := by
  cases τ with
  | last d m => exact ⟨fun h => hu.wi h hS hl hp, hL rfl⟩
  | quit d m => trivial
  | sel m => exact hu.rk hwi hS hl hp ho hc
  | wait => exact hu.rk hwi hS hl hp ho hc
  | job k m => exact hu.rk hwi hS hl hp ho hc
  | run k b m => exact hu.rk hwi hS hl hp ho hc
  | fin m => exact hu.rk hwi hS hl hp ho hc
  | rel d m => exact hu.rk hwi hS hl hp ho hc
theorem sp_has (h : x.Com P AnchS j gs w t D tag q ob oj) {i k : Nat} (hi : i < j) (hk : (D i).has = some k) : ∀ r d m, tag ≠ .sp r d m := by
  rintro r d m rfl
  have := (h.hasb i k hi hk).1
  simp [MT.sent] at this
theorem ofEvent_cellA (a : Addr) (wr s : Bool) : MemAct.ofEvent ⟨.cell a, wr, s⟩ = .access ⟨.cell a, wr, s⟩ := rfl
/-- What a worker's idle step may list is in order. -/
theorem okW_of_evK (G : x.Geo) {i : Nat} {o qq : Option Nat} (hw : x.L0 ≤ w.heap.size) (ho : ∀ b, o = some b → x.L0 ≤ b ∧ b < w.heap.size ∧ ob b = some i) (hq : ∀ k, qq = some k → oj k = some i) {e : Event} (h : x.EvK o qq e) (fn : FuncId) (pos : String) :
    x.OkW ob oj i { g := x.c + i, fn, pos, act := .ofEvent e } ∧ (MemAct.ofEvent e).low w.heap.size := by
  obtain ⟨ad, wrr, rfl, h⟩ := h
  have hc := G.c
  refine ⟨⟨rfl, by simp [ofEvent_cellA], fun b hb => .inr ?_⟩, ?_⟩
  · simp only [ofEvent_cellA, MemAct.touch?, Option.some.injEq] at hb
    subst hb
    refine ⟨rfl, ?_⟩
    rcases h with ⟨h1, h2⟩ | h | ⟨k, h1, h2⟩
    · exact .inr ⟨⟨ad, rfl, h2⟩, h1⟩
    · exact .inl ⟨ad, rfl, .inl ⟨(ho _ h).1, (ho _ h).2.2⟩⟩
    · exact .inl ⟨ad, rfl, .inr ⟨k, h2, hq k h1⟩⟩
  · rw [ofEvent_cellA]
    rcases h with ⟨h1, h2⟩ | h | ⟨k, h1, rfl⟩
    · have := h2.2.1
      exact Nat.lt_of_lt_of_le this hw
    · exact (ho _ h).2.1
    · exact Nat.lt_of_lt_of_le hc hw
theorem okW_of_sh (G : x.Geo) {i : Nat} (hw : x.L0 ≤ w.heap.size) {ad : Addr} {wrr : Bool} (ha : ad.block = x.Wg) (fn : FuncId) (pos : String) :
    x.OkW ob oj i { g := x.c + i, fn, pos, act := .ofEvent ⟨.cell ad, wrr, true⟩ } ∧ (MemAct.ofEvent ⟨.cell ad, wrr, true⟩).low w.heap.size := by
  refine ⟨⟨rfl, by simp [ofEvent_cellA], fun b hb => .inl ?_⟩, ?_⟩
  · simp only [ofEvent_cellA, MemAct.touch?, Option.some.injEq] at hb
    subst hb
    exact ⟨⟨ad, rfl, ha⟩, rfl⟩
  · rw [ofEvent_cellA]
    show ad.block < _
    have := G.wg
    omega
theorem okW_of_mute {i : Nat} {e : Event} (h : e.mute = true) (fn : FuncId) (pos : String) (B : Nat) :
    x.OkW ob oj i { g := x.c + i, fn, pos, act := .ofEvent e } ∧ (MemAct.ofEvent e).low B :=
  ⟨⟨rfl, mute_norel h _, fun b hb => (by rw [touch_mute h] at hb; cases hb)⟩, low_mute h B⟩
theorem okW_of_rm {i : Nat} (hw : x.Wg < w.heap.size) (fn : FuncId) (pos : String) :
    x.OkW ob oj i { g := x.c + i, fn, pos, act := .ofEvent (Go.ConcR.mk (.releaseMerge (stA x.Wg))) } ∧ (MemAct.ofEvent (Go.ConcR.mk (.releaseMerge (stA x.Wg)))).low w.heap.size :=
  ⟨⟨rfl, by simp [MemAct.ofEvent, Go.ConcR.mk], fun b hb => (by simp [MemAct.ofEvent, Go.ConcR.mk, MemAct.touch?] at hb)⟩, hw⟩
end
end Ph
end Go.Proofs.YtacimedkchjfnaaGreat
end

section
/-! The phase: a job is handed over; who offers what. -/
namespace Go.Proofs.YtacimedkchjfnaaGreat
set_option linter.unusedSimpArgs false
set_option linter.unusedVariables false
open Go.Conc
open Go.ConcR (KK wgBlock WgAt stA smA rd wr deafBehind_cons deafBehind_one)
open Go.ConcN (WgLive PermW fork_knows RelBy upd upd_same upd_ne sumTo sumTo_upd sumTo_congr le_sumTo)
theorem relBy_none {a : Addr} {t u : Trace} {k r : Nat} (h : RelBy a t k r) (hu : ∀ op ∈ u, op.act.touch? = none) : RelBy a (t ++ u) k r := by
  refine h.app fun i hi _ hc => ?_
  obtain ⟨y, hy, _⟩ := hc
  rcases touch_app hy with ⟨h1, _⟩ | ⟨_, op, ho, _, hn⟩
  · omega
  · rw [hu op ho] at hn; cases hn
/-- An operation of a communication. -/
def CommOp (c : Nat) (op : MemOp) : Prop := (∃ s, op.act = .send c s) ∨ (∃ s, op.act = .sendDone c s) ∨ (∃ r k, op.act = .recv c r k) ∨ (∃ r, op.act = .recvDone c r) ∨ op.act = .recvClosed c
theorem CommOp.none {c : Nat} {op : MemOp} (h : CommOp c op) : op.act.touch? = none ∧ op.act ≠ .mark .disable ∧ op.act ≠ .mark .enable ∧ (∀ a, op.act ≠ .mark (.release a)) ∧ ∀ B, c < B → op.act.low B := by
  rcases h with ⟨s, e⟩ | ⟨s, e⟩ | ⟨r, k, e⟩ | ⟨r, e⟩ | e <;> rw [e] <;> exact ⟨rfl, by simp, by simp, by simp, fun B h => h⟩
theorem deaf_quiet (t : Trace) (g : Nat) (u : Trace) (hu : ∀ op ∈ u, op.act ≠ .mark .disable ∧ op.act ≠ .mark .enable) : Deaf (t ++ u) g = Deaf t g := by
  have key : ∀ l : List MemOp, (∀ op ∈ l, op.act ≠ .mark .disable ∧ op.act ≠ .mark .enable) → ∀ d, l.foldl (deafStep g) d = d := by
    intro l
    induction l with
    | nil => intro _ _; rfl
    | cons y l ih =>
      intro hl d
      have hy : deafStep g d y = d := by
        obtain ⟨h1, h2⟩ := hl y (by simp)
        unfold deafStep
        split
        · rename_i e; exact absurd e h1
        · rename_i e; exact absurd e h2
        · rfl
      rw [List.foldl_cons, hy]
      exact ih (fun op ho => hl op (by simp [ho])) d
  have := Deaf_append t g u.toList
  rw [Array.toArray_toList] at this
  rw [this]
  exact key _ (fun op ho => hu op (Array.mem_toList_iff.1 ho)) _
theorem heap_chan (w : World) (c cap : Nat) (buf : Array Value) (closed : Bool) (s r : Nat) (tm : Bool) (h : c < w.heap.size) : (w.setChan c cap buf closed s r tm).heap[c]? = some (.chan cap buf closed s r tm) := by
  simp [World.setChan, h]
namespace Ph
section
variable {x : Ph} {P : Program} {AnchS Anch : Goroutine → Prop} {j : Nat} {gs : Array Goroutine} {w w' : World} {t : Trace} {D D' : Nat → WT} {tag tag' : MT} {q : Nat → Nat} {ob oj : Nat → Option Nat} {a g g' : Goroutine} {es : Array Event} {sl : Option (Nat × Nat)}

/-! ### who offers what -/
theorem WSit.offers (K : x.WkS P AnchS) {τ : WT} (h : x.WSit P AnchS τ g w) (c : Nat) : offersAt g c true = [] ∧ (τ ≠ .wait → offersAt g c false = []) := by
  rcases h.status K with ⟨rfl, hs⟩ | ⟨hn, hs⟩
  · obtain ⟨g₂, rfl, _, _⟩ := h
    exact ⟨offersAt_parked_sends (fun cc hcc => by
      simp only [cs, List.mem_toArray, List.mem_cons, List.not_mem_nil, or_false] at hcc
      rcases hcc with rfl | rfl <;> rfl) c, fun hn => absurd rfl hn⟩
  · have hb : g.status ≠ .blocked := by
      rcases hs with hs | ⟨hs, _⟩ <;> rw [hs] <;> simp
    exact ⟨offersAt_of_not_blocked hb c true, fun _ => offersAt_of_not_blocked hb c false⟩
theorem MSit.offers (h : x.MSit P AnchS Anch tag a w) (c : Nat) : ((∀ r, tag ≠ .prk r) ∨ c ≠ x.J → offersAt a c true = []) ∧ offersAt a c false = [] := by
  rcases h.status with ⟨⟨r, rfl⟩ | ⟨d, rfl⟩, hs⟩ | ⟨_, _, hs⟩
  · obtain ⟨r', h1, h2, g₂, rfl, h3⟩ := h
    refine ⟨fun hn => ?_, offersAt_parked_send' ..⟩
    rcases hn with hn | hn
    · exact absurd rfl (hn r)
    · rw [snd1, offersAt_parked_send, if_neg (Ne.symm hn)]
  · obtain ⟨g₀, rfl, h⟩ := h
    have h0 := h w (RM0.refl w)
    constructor <;> (try intro _) <;> simp [offersAt, h0.2.1]
  · have hb : a.status ≠ .blocked := by rw [hs]; simp
    exact ⟨fun _ => offersAt_of_not_blocked hb c true, offersAt_of_not_blocked hb c false⟩
theorem Com.partners_send (K : x.WkS P AnchS) (h : x.Com P AnchS j gs w t D tag q ob oj) (ha : gs[0]? = some a) (hm : x.MSit P AnchS Anch tag a w) {k c : Nat} (hc : (∀ r, tag ≠ .prk r) ∨ c ≠ x.J) : partners (gs.setIfInBounds k ph) c true = [] := by
  refine partners_nil fun m y hy => ?_
  rcases getElem?_stand gs k m y hy with ⟨_, rfl⟩ | ⟨_, hy⟩
  · exact offersAt_ph c true
  · rcases Nat.eq_zero_or_pos m with rfl | hpos
    · rw [ha] at hy; cases hy
      exact (hm.offers c).1 hc
    · rcases Nat.lt_or_ge m x.c with hlt | hge
      · have hs := (h.old m y hpos hlt hy).status
        exact offersAt_of_not_blocked (by rcases hs with hs | hs <;> rw [hs] <;> simp) c true
      · have hkj : m - x.c < j := by have := lt_size_of_get hy; rw [h.size] at this; omega
        obtain ⟨gk, h1, h2⟩ := h.wk (m - x.c) hkj
        rw [show x.c + (m - x.c) = m by omega, hy] at h1
        obtain rfl := Option.some.inj h1
        exact (h2.offers K c).1

/-! ### a job is handed over -/
theorem Com.meet (G : x.Geo) (h : x.Com P AnchS 3 gs w t D tag q ob oj) {r r' : Nat} (hr : r = r' + 1) (hrN : r ≤ x.N) (htag : tag = .prk r ∨ ∃ m, tag = .snd r 0 m)
    {i : Nat} (hi : i < 3) (hst : (D i).stage = 6 ∨ (D i).stage = 7) (hdn : ∀ k, (D i).has = some k → w.cell? (x.oc k) = some (x.val k))
    {gs' : Array Goroutine} {u : Trace} {m m' d s rr : Nat} {a' g' : Goroutine} (hgz : gs'.size = gs.size) (h0 : gs'[0]? = some a') (hgi : gs'[x.c + i]? = some g') (hgo : ∀ k, 0 < k → k ≠ x.c + i → gs'[k]? = gs[k]?)
    (hW : x.WSit P AnchS (.job (x.N - r) m) g' ((w.at d).setChan x.J 0 #[] false s rr false)) (hNL : NoLast 3 D)
    (hu : ∀ op ∈ u, CommOp x.J op ∧ (op.g = 0 ∨ op.g = x.c + i)) :
    x.Com P AnchS 3 gs' ((w.at d).setChan x.J 0 #[] false s rr false) (t ++ u) (upd D i (.job (x.N - r) m)) (.snd r' 0 m') q ob (upd oj (x.N - r) (some i)) := by
  have hc1 := G.c1
  have hsent : tag.sent x.N = x.N - r := by rcases htag with rfl | ⟨_, rfl⟩ <;> rfl
  have hsent' : (MT.snd r' 0 m').sent x.N = x.N - r + 1 := by simp only [MT.sent]; omega
  have hdeaf : tag.deaf = 0 := by rcases htag with rfl | ⟨_, rfl⟩ <;> rfl
  have hclosed : tag.closed = false := by rcases htag with rfl | ⟨_, rfl⟩ <;> rfl
  generalize hw' : (w.at d).setChan x.J 0 #[] false s rr false = w' at hW ⊢
  have hup : Upd (fun k => k = x.J) w w' := by
    rw [← hw']
    exact ⟨fun k hk hn => (upd_setChan (w.at d) x.J 0 #[] false s rr false).block k hk hn, (upd_setChan (w.at d) x.J 0 #[] false s rr false).size, rfl, rfl, rfl⟩
  have hFx : ∀ b, b = x.J → ¬ x.Fx b := fun b e hf => hf.2.2.2.1 e
  have hsz : w'.heap.size = w.heap.size := by rw [← hw']; simp [World.setChan, World.at]
  have hL := h.wi.size
  have bwg : w'.heap[x.Wg]? = w.heap[x.Wg]? := hup.block _ (by have := G.wg; omega) G.wgj
  have bc : w'.heap[x.C]? = w.heap[x.C]? := hup.block _ (by have := G.c; omega) G.cj
  have be : w'.heap[x.E]? = w.heap[x.E]? := hup.block _ (by have := G.e; omega) (Ne.symm G.je)
  have bj : w'.heap[x.J]? = some (.chan 0 #[] false s rr false) := by
    rw [← hw']
    exact heap_chan (w.at d) x.J 0 #[] false s rr false (by have := G.j; show x.J < w.heap.size; omega)
  have hl := live_of_block h.wi.live bwg
  have hp := pay_of_block h.wi.pay bc
  have hnone : ∀ op ∈ u, op.act.touch? = none := fun op ho => (hu op ho).1.none.1
  have hdf : ∀ k, Deaf (t ++ u) k = Deaf t k := fun k => deaf_quiet t k u fun op ho => ⟨(hu op ho).1.none.2.1, (hu op ho).1.none.2.2.1⟩
  refine ⟨by rw [hgz, h.size], fun k gk hk hkc hgk => ?_, fun k hk => ?_, fun k hk => ?_, fun k hk => ?_, ?_, hup.wi h.wi hFx hl hp, ⟨_, _, bj⟩, ?_, fun k b hk hb => ?_, fun k n hk hb => ?_, fun k hk => ?_, fun b k hb => by rw [hsz]; exact h.obs b k hb, fun k n hk => ?_, ?_, ?_, fun k hk hstk => ?_, fun hcl => (by cases hcl), rfl⟩
  · rw [hgo k hk (by omega)] at hgk
    rw [hdf]
    exact h.old k gk hk hkc hgk
  · rw [hdf]; exact h.above k hk
  · by_cases hki : k = i
    · subst hki
      exact ⟨g', hgi, by rw [upd_same]; exact hW⟩
    · obtain ⟨gk, h1, h2⟩ := h.wk k hk
      refine ⟨gk, by rw [hgo _ (by omega) (by omega), h1], ?_⟩
      rw [upd_ne _ _ hki]
      refine h2.rely (wrel_of_upd hup h.wi hFx hl hp (fun b hb => ?_) (fun n _ => cell_of_block bc n) fun _ => bwg)
      obtain ⟨b1, b2, _⟩ := h.blkb k b hk hb
      exact ⟨b2, fun e => by have := G.j; omega⟩
  · rw [hdf]
    by_cases hki : k = i
    · subst hki
      rw [upd_same, h.wdeaf k hk]
      cases hD : D k <;> rw [hD] at hst <;> simp [WT.stage] at hst <;> rfl
    · rw [upd_ne _ _ hki]; exact h.wdeaf k hk
  · rw [hdf, h.d0, hdeaf]; rfl
  · obtain ⟨s', r'', he⟩ := h.ech
    rw [hclosed] at he
    exact ⟨s', r'', be.trans he⟩
  · by_cases hki : k = i
    · subst hki
      rw [upd_same] at hb; cases hb
    · rw [upd_ne _ _ hki] at hb
      rw [hsz]
      exact h.blkb k b hk hb
  · rw [hsent']
    by_cases hki : k = i
    · subst hki
      rw [upd_same] at hb
      simp only [WT.has, Option.some.injEq] at hb
      subst hb
      exact ⟨by omega, upd_same ..⟩
    · rw [upd_ne _ _ hki] at hb
      obtain ⟨h1, h2⟩ := h.hasb k n hk hb
      rw [hsent] at h1
      exact ⟨by omega, by rw [upd_ne _ _ (by omega)]; exact h2⟩
  · rw [hsent'] at hk
    by_cases hkn : k = x.N - r
    · exact .inl ⟨i, hi, by rw [upd_same, hkn]; rfl⟩
    · rcases h.done k (by rw [hsent]; omega) with ⟨n, hn1, hn2⟩ | hd
      · by_cases hni : n = i
        · subst hni
          exact .inr ((cell_of_block bc k).trans (hdn k hn2))
        · exact .inl ⟨n, hn1, by rw [upd_ne _ _ hni]; exact hn2⟩
      · exact .inr ((cell_of_block bc k).trans hd)
  · rw [hsent']
    by_cases hkn : k = x.N - r
    · rw [hkn, upd_same] at hk
      cases hk
      exact ⟨by omega, hi⟩
    · rw [upd_ne _ _ hkn] at hk
      obtain ⟨h1, h2⟩ := h.ojs k n hk
      rw [hsent] at h1
      exact ⟨by omega, h2⟩
  · refine (h.ti.grow (ob' := ob) (oj' := upd oj (x.N - r) (some i)) (fun _ => .inl rfl) fun k => ?_).mute fun op ho => ⟨(hu op ho).1.none.1, (hu op ho).1.none.2.2.2.1 _, ?_⟩
    · by_cases hkn : k = x.N - r
      · right
        cases e : oj k with
        | none => rfl
        | some n =>
          have := (h.ojs k n e).1
          rw [hsent] at this
          omega
      · exact .inl (upd_ne _ _ hkn)
    · rcases (hu op ho).2 with e | e <;> rw [e] <;> omega
  · refine seen_app (fun op ho => by rw [hsz]; exact h.seen op ho) fun op ho => (hu op ho).1.none.2.2.2.2 _ ?_
    have := G.j
    omega
  · by_cases hki : k = i
    · subst hki
      rw [upd_same] at hstk
      simp [WT.stage] at hstk
    · rw [upd_ne _ _ hki] at hstk
      obtain ⟨rl, hr'⟩ := h.rel k hk hstk
      exact ⟨rl, relBy_none hr' hnone⟩
end
end Ph
end Go.Proofs.YtacimedkchjfnaaGreat
end
