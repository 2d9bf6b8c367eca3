import Derived.Test.YtapclgjelekijaaM0
/-! The table's plain model: the order's links, and all of it together. -/
namespace Go.Proofs.Ytapclgjelekijaa

/-- The order o, told by links. -/
structure Lnk (S : List Slot) (first last : Option Nat) (o : List Nat) : Prop where
  nd : o.Nodup
  lt : ∀ k : Nat, k ∈ o → k < S.length
  fst : first = o.head?
  lst : last = o.getLast?
  at_ : ∀ (l1 : List Nat) (k : Nat) (l2 : List Nat) (s : Slot), o = l1 ++ k :: l2 → S[k]? = some s → s.prev = l1.getLast? ∧ s.next = l2.head?

def cutS (S : List Slot) (s : Slot) : List Slot :=
  let S1 := match s.prev with
    | none => S
    | some p => S.modify p fun t => { t with next := s.next }
  match s.next with
  | none => S1
  | some q => S1.modify q fun t => { t with prev := s.prev }

theorem cutS_length (S : List Slot) (s : Slot) : (cutS S s).length = S.length := by
  unfold cutS
  cases s.prev <;> cases s.next <;> simp

theorem cutS_get (S : List Slot) (s : Slot) (a : Nat) : (cutS S s)[a]? = (S[a]?).map fun t => { t with next := if s.prev = some a then s.next else t.next, prev := if s.next = some a then s.prev else t.prev } := by
  unfold cutS
  rcases hp : s.prev with _ | p <;> rcases hn : s.next with _ | q
  · simp
  · simp only [List.getElem?_modify]
    cases S[a]? with
    | none => simp
    | some t => by_cases h : q = a <;> simp [h]
  · simp only [List.getElem?_modify]
    cases S[a]? with
    | none => simp
    | some t => by_cases h : p = a <;> simp [h]
  · simp only [List.getElem?_modify]
    cases S[a]? with
    | none => simp
    | some t => by_cases h : p = a <;> by_cases h2 : q = a <;> simp [h, h2]

def cutFirst (first : Option Nat) (s : Slot) : Option Nat := if s.prev = none then s.next else first
def cutLast (last : Option Nat) (s : Slot) : Option Nat := if s.next = none then s.prev else last

theorem head?_mem {l : List Nat} {a : Nat} (h : l.head? = some a) : a ∈ l := by
  cases l with
  | nil => simp at h
  | cons b l => simp at h; subst h; simp
theorem getLast?_mem {l : List Nat} {a : Nat} (h : l.getLast? = some a) : a ∈ l := List.mem_of_getLast? h

theorem Lnk.cut {S : List Slot} {first last : Option Nat} {l1 l2 : List Nat} {k : Nat} {s : Slot} (H : Lnk S first last (l1 ++ k :: l2)) (hs : S[k]? = some s) :
    Lnk (cutS S s) (cutFirst first s) (cutLast last s) (l1 ++ l2) := by
  obtain ⟨hp, hn⟩ := H.at_ l1 k l2 s rfl hs
  have hnd := H.nd
  rw [List.nodup_append] at hnd
  obtain ⟨nd1, nd2, hdis⟩ := hnd
  rw [List.nodup_cons] at nd2
  have hk1 : k ∉ l1 := fun h => hdis k h k (by simp) rfl
  refine ⟨?_, ?_, ?_, ?_, ?_⟩
  · rw [List.nodup_append]
    exact ⟨nd1, nd2.2, fun a ha b hb => hdis a ha b (by simp [hb])⟩
  · intro a ha
    rw [cutS_length]
    refine H.lt a ?_
    simp only [List.mem_append, List.mem_cons] at ha ⊢
    rcases ha with ha | ha
    · exact .inl ha
    · exact .inr (.inr ha)
  · unfold cutFirst
    rw [H.fst, hp, hn]
    cases l1 with
    | nil => simp
    | cons a l1 => simp
  · unfold cutLast
    rw [H.lst, hp, hn]
    cases l2 with
    | nil => simp
    | cons a l2 => simp [List.getLast?_append, List.getLast?_cons_cons]
  · intro m1 a m2 t ho ht
    rw [cutS_get] at ht
    cases hSa : S[a]? with
    | none => rw [hSa] at ht; simp at ht
    | some t0 =>
      rw [hSa] at ht
      simp only [Option.map_some, Option.some.injEq] at ht
      subst ht
      dsimp only
      rw [hp, hn]
      have ho' := ho
      rw [List.append_eq_append_iff] at ho
      rcases ho with ⟨t1, ht1, ht2⟩ | ⟨t1, ht1, ht2⟩
      · -- l1 ++ t1 = m1, l2 = t1 ++ a :: m2
        have h0 := H.at_ (l1 ++ k :: t1) a m2 t0 (by rw [ht2]; simp) hSa
        have hal2 : a ∈ l2 := by rw [ht2]; simp
        have hal1 : l1.getLast? ≠ some a := fun e => hdis a (getLast?_mem e) a (by simp [hal2]) rfl
        rw [if_neg hal1, h0.2]
        refine ⟨?_, rfl⟩
        cases t1 with
        | nil =>
          rw [ht2, ht1]
          simp
        | cons c t1 =>
          have hne : l2.head? ≠ some a := by
            rw [ht2]
            simp only [List.cons_append, List.head?_cons, ne_eq, Option.some.injEq]
            intro e
            subst e
            have := nd2.2
            rw [ht2, List.cons_append, List.nodup_cons] at this
            exact this.1 (by simp)
          rw [if_neg hne, h0.1, ht1]
          simp [List.getLast?_append, List.getLast?_cons_cons]
      · -- l1 = m1 ++ t1, a :: m2 = t1 ++ l2
        cases t1 with
        | nil =>
          simp only [List.nil_append] at ht2
          have h0 := H.at_ (l1 ++ [k]) a m2 t0 (by rw [← ht2]; simp) hSa
          have hal2 : a ∈ l2 := by rw [← ht2]; simp
          have hal1 : l1.getLast? ≠ some a := fun e => hdis a (getLast?_mem e) a (by simp [hal2]) rfl
          rw [if_neg hal1, h0.2]
          refine ⟨?_, rfl⟩
          rw [← ht2, ht1]
          simp
        | cons c t1 =>
          simp only [List.cons_append, List.cons.injEq] at ht2
          obtain ⟨rfl, rfl⟩ := ht2
          have hal1 : a ∈ l1 := by rw [ht1]; simp
          have hne : l2.head? ≠ some a := fun e => hdis a hal1 a (by simp [head?_mem e]) rfl
          have h0 := H.at_ m1 a (t1 ++ k :: l2) t0 (by rw [ht1]; simp) hSa
          rw [if_neg hne, h0.1]
          refine ⟨rfl, ?_⟩
          cases t1 with
          | nil =>
            rw [ht1]
            simp
          | cons d t1 =>
            have hne2 : l1.getLast? ≠ some a := by
              rw [ht1]
              intro e
              have hm : a ∈ d :: t1 := getLast?_mem (by simpa [List.getLast?_append, List.getLast?_cons_cons] using e)
              rw [ht1, List.nodup_append] at nd1
              have := nd1.2.1
              rw [List.nodup_cons] at this
              exact this.1 hm
            rw [if_neg hne2, h0.2]
            simp

def layS (S : List Slot) (last : Option Nat) (k : Nat) : List Slot :=
  let S1 := S.modify k fun t => { t with prev := last, next := none }
  match last with
  | none => S1
  | some p => S1.modify p fun t => { t with next := some k }

theorem layS_length (S : List Slot) (last : Option Nat) (k : Nat) : (layS S last k).length = S.length := by
  unfold layS
  cases last <;> simp

theorem layS_get (S : List Slot) {last : Option Nat} {k : Nat} (hk : last ≠ some k) (a : Nat) : (layS S last k)[a]? = (S[a]?).map fun t => { t with next := if a = k then none else if last = some a then some k else t.next, prev := if a = k then last else t.prev } := by
  unfold layS
  rcases last with _ | p
  · simp only [List.getElem?_modify]
    cases S[a]? with
    | none => simp
    | some t => by_cases h : k = a <;> simp [h, eq_comm (a := a)]
  · simp only [List.getElem?_modify]
    have hpk : p ≠ k := fun e => hk (by rw [e])
    cases S[a]? with
    | none => simp
    | some t =>
      by_cases h : k = a
      · subst h; simp [hpk]
      · by_cases h2 : p = a
        · subst h2; simp [h, Ne.symm h]
        · simp [h, h2, Ne.symm h]

def layFirst (first last : Option Nat) (k : Nat) : Option Nat := if last = none then some k else first

theorem Lnk.lay {S : List Slot} {first last : Option Nat} {o : List Nat} {k : Nat} (H : Lnk S first last o) (hk : k ∉ o) (hl : k < S.length) :
    Lnk (layS S last k) (layFirst first last k) (some k) (o ++ [k]) := by
  have hlk : last ≠ some k := fun e => by rw [H.lst] at e; exact hk (getLast?_mem e)
  refine ⟨?_, ?_, ?_, ?_, ?_⟩
  · rw [List.nodup_append]
    exact ⟨H.nd, by simp, fun a ha b hb => by simp at hb; subst hb; intro e; subst e; exact hk ha⟩
  · intro a ha
    rw [layS_length]
    simp only [List.mem_append, List.mem_singleton] at ha
    rcases ha with ha | rfl
    · exact H.lt a ha
    · exact hl
  · unfold layFirst
    rw [H.lst, H.fst]
    cases o with
    | nil => simp
    | cons a o => simp
  · simp
  · intro m1 a m2 t ho ht
    rw [layS_get S hlk] at ht
    cases hSa : S[a]? with
    | none => rw [hSa] at ht; simp at ht
    | some t0 =>
      rw [hSa] at ht
      simp only [Option.map_some, Option.some.injEq] at ht
      subst ht
      dsimp only
      rw [List.append_eq_append_iff] at ho
      rcases ho with ⟨t1, ht1, ht2⟩ | ⟨t1, ht1, ht2⟩
      · cases t1 with
        | nil =>
          simp only [List.nil_append, List.cons.injEq] at ht2
          obtain ⟨rfl, rfl⟩ := ht2
          rw [if_pos rfl, if_pos rfl, H.lst, ht1]
          simp
        | cons c t1 => simp at ht2
      · cases t1 with
        | nil =>
          simp only [List.nil_append, List.cons.injEq] at ht2
          obtain ⟨rfl, rfl⟩ := ht2
          rw [if_pos rfl, if_pos rfl, H.lst, ht1]
          simp
        | cons c t1 =>
          simp only [List.cons_append, List.cons.injEq] at ht2
          obtain ⟨rfl, rfl⟩ := ht2
          have hao : a ∈ o := by rw [ht1]; simp
          have hak : a ≠ k := fun e => by subst e; exact hk hao
          have h0 := H.at_ m1 a t1 t0 ht1 hSa
          rw [if_neg hak, if_neg hak, h0.1]
          refine ⟨rfl, ?_⟩
          cases t1 with
          | nil =>
            have : last = some a := by rw [H.lst, ht1]; simp
            rw [if_pos this]
            simp
          | cons d t1 =>
            have hne : last ≠ some a := by
              rw [H.lst, ht1]
              intro e
              have hm : a ∈ d :: t1 := getLast?_mem (by simpa [List.getLast?_append, List.getLast?_cons_cons] using e)
              have := H.nd
              rw [ht1, List.nodup_append] at this
              have := this.2.1
              rw [List.nodup_cons] at this
              exact this.1 hm
            rw [if_neg hne, h0.2]
            simp

/-- What turns no link, turns no order. -/
theorem Lnk.same {S S' : List Slot} {first last : Option Nat} {o : List Nat} (H : Lnk S first last o) (hl : S.length ≤ S'.length) (h : ∀ (k : Nat) (s' : Slot), k ∈ o → S'[k]? = some s' → ∃ s, S[k]? = some s ∧ s'.prev = s.prev ∧ s'.next = s.next) :
    Lnk S' first last o :=
  ⟨H.nd, fun k hk => Nat.lt_of_lt_of_le (H.lt k hk) hl, H.fst, H.lst, fun l1 k l2 s' ho hs' => by
    obtain ⟨s, h1, h2, h3⟩ := h k s' (by rw [ho]; simp) hs'
    rw [h2, h3]
    exact H.at_ l1 k l2 s ho h1⟩

theorem Lnk.setNew {S T : List Slot} {first last : Option Nat} {o : List Nat} (H : Lnk S first last o) {k : Nat} (s : Slot) (hT : ∀ a, a ∈ o → T[a]? = S[a]?) (hle : S.length ≤ T.length) (hk : k ∉ o) : Lnk (T.set k s) first last o :=
  H.same (by rw [List.length_set]; exact hle) fun a s' ha hs' => ⟨s', by
    rw [List.getElem?_set_ne (fun e => by subst e; exact hk ha), hT a ha] at hs'
    exact hs', rfl, rfl⟩

end Go.Proofs.Ytapclgjelekijaa
