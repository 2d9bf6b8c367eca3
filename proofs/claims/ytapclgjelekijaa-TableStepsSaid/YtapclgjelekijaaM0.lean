/-! The table's plain model: slots, links, ways; no program in sight. -/
namespace Go.Proofs.Ytapclgjelekijaa

structure Slot where
  key : ByteArray
  v : Int
  prev : Option Nat
  next : Option Nat

def zeroSlot : Slot := ⟨⟨#[]⟩, 0, some 0, some 0⟩

def lk : Option Nat → Int
  | none => -1
  | some k => (k : Int)

structure Ring where
  room : Nat
  slots : List Slot
  free : List Nat
  ways : List Nat
  first : Option Nat
  last : Option Nat

def Ring.key (R : Ring) (k : Nat) : ByteArray := ((R.slots[k]?).map Slot.key).getD ⟨#[]⟩
def Ring.val (R : Ring) (k : Nat) : Int := ((R.slots[k]?).map Slot.v).getD 0

/-! #### small facts on numbers -/
theorem mod_one {a N : Nat} (h : a < N) : a % N = a := Nat.mod_eq_of_lt h
theorem mod_succ (a d N : Nat) : ((a + d) % N + 1) % N = (a + (d + 1)) % N := by
  rw [Nat.mod_add_mod, Nat.add_assoc]
theorem mod_shift (a d e N : Nat) : ((a + d) % N + e) % N = (a + (d + e)) % N := by
  rw [Nat.mod_add_mod, Nat.add_assoc]
theorem mod_inj {a x y N : Nat} (hx : x < N) (hy : y < N) (h : (a + x) % N = (a + y) % N) : x = y := by
  have hN : 0 < N := by omega
  have h1 := Nat.div_add_mod (a + x) N
  have h2 := Nat.div_add_mod (a + y) N
  generalize hq : (a + x) / N = q at h1
  generalize hr : (a + y) / N = r at h2
  generalize (a + x) % N = m at h h1
  generalize (a + y) % N = m' at h h2
  subst h
  by_cases hqr : q = r
  · subst hqr; omega
  · rcases Nat.lt_or_gt_of_ne hqr with hl | hl
    · have h3 : N * (q + 1) ≤ N * r := Nat.mul_le_mul_left N (by omega)
      rw [Nat.mul_add] at h3
      omega
    · have h3 : N * (r + 1) ≤ N * q := Nat.mul_le_mul_left N (by omega)
      rw [Nat.mul_add] at h3
      omega
theorem mod_reach {a p N : Nat} (hp : p < N) : ∃ d, d < N ∧ p = (a + d) % N := by
  have hN : 0 < N := by omega
  refine ⟨(p + (N - a % N)) % N, Nat.mod_lt _ hN, ?_⟩
  have ha := Nat.mod_lt a hN
  rw [Nat.add_mod_mod, show a + (p + (N - a % N)) = p + ((a - a % N) + N) by have := Nat.mod_le a N; omega]
  have h1 : (a - a % N) % N = 0 := by
    have := Nat.div_add_mod a N
    rw [show a - a % N = N * (a / N) by omega]
    exact Nat.mul_mod_right N _
  have h2 : (a - a % N + N) % N = 0 := by rw [Nat.add_mod_right, h1]
  rw [Nat.add_mod, h2, Nat.add_zero, Nat.mod_mod, Nat.mod_eq_of_lt hp]
/-- The first place at which something holds. -/
theorem least {P : Nat → Prop} [DecidablePred P] : ∀ {n : Nat}, P n → ∃ d, d ≤ n ∧ P d ∧ ∀ e, e < d → ¬ P e := by
  intro n
  induction n using Nat.strongRecOn with
  | _ n ih =>
    intro h
    by_cases hl : ∃ m, m < n ∧ P m
    · obtain ⟨m, hm, hp⟩ := hl
      obtain ⟨d, hd, h1, h2⟩ := ih m hm hp
      exact ⟨d, by omega, h1, h2⟩
    · exact ⟨n, Nat.le_refl _, h, fun e he hp => hl ⟨e, he, hp⟩⟩

/-- So many places, so few things: two places hold the same one. -/
theorem pigeon : ∀ (m n : Nat) (f : Nat → Nat), (∀ i, i < n → f i < m) → (∀ i j, i < n → j < n → f i = f j → i = j) → n ≤ m := by
  intro m
  induction m with
  | zero =>
    intro n f h _
    rcases Nat.eq_zero_or_pos n with h0 | h0
    · omega
    · exact absurd (h 0 h0) (by omega)
  | succ m ih =>
    intro n f h hi
    by_cases hx : ∃ i, i < n ∧ f i = m
    · obtain ⟨i, hin, hm⟩ := hx
      have hle : n - 1 ≤ m := by
        refine ih (n - 1) (fun j => if j < i then f j else f (j + 1)) ?_ ?_
        · intro j hj
          show (if j < i then f j else f (j + 1)) < m
          split
          · have h1 := h j (by omega)
            have h2 : f j ≠ m := fun e => by have := hi j i (by omega) hin (by omega); omega
            omega
          · have h1 := h (j + 1) (by omega)
            have h2 : f (j + 1) ≠ m := fun e => by have := hi (j + 1) i (by omega) hin (by omega); omega
            omega
        · intro a c ha hc
          show (if a < i then f a else f (a + 1)) = (if c < i then f c else f (c + 1)) → a = c
          split <;> split <;> intro e
          · exact hi _ _ (by omega) (by omega) e
          · have := hi _ _ (by omega) (by omega) e; omega
          · have := hi _ _ (by omega) (by omega) e; omega
          · have := hi _ _ (by omega) (by omega) e; omega
      omega
    · have := ih n f (fun i hin => by have h1 := h i hin; have h2 : f i ≠ m := fun e => hx ⟨i, hin, e⟩; omega) hi
      omega

/-! #### the ways -/
/-- Where the way to a key ends: at an empty place, or at its own. -/
def probe (W : List Nat) (κ : Nat → ByteArray) (key : ByteArray) : Nat → Nat → Option Nat
  | 0, _ => none
  | f + 1, i => match W[i]? with
    | none => none
    | some 0 => some i
    | some (k + 1) => if κ k = key then some i else probe W κ key f ((i + 1) % W.length)

theorem probe_walk {W : List Nat} {κ : Nat → ByteArray} {key : ByteArray} (a : Nat) : ∀ (d x f : Nat), d < f → (a + x) % W.length < W.length →
    (∀ e, e < d → ∃ k, W[(a + (x + e)) % W.length]? = some (k + 1) ∧ κ k ≠ key) →
    (W[(a + (x + d)) % W.length]? = some 0 ∨ ∃ k, W[(a + (x + d)) % W.length]? = some (k + 1) ∧ κ k = key) →
    probe W κ key f ((a + x) % W.length) = some ((a + (x + d)) % W.length) := by
  intro d
  induction d with
  | zero =>
    intro x f hf hx _ hend
    obtain ⟨f, rfl⟩ : ∃ g, f = g + 1 := ⟨f - 1, by omega⟩
    rw [Nat.add_zero] at hend ⊢
    unfold probe
    rcases hend with h | ⟨k, h, hk⟩
    · rw [h]; simp
    · rw [h]; simp [hk]
  | succ d ih =>
    intro x f hf hx hbefore hend
    obtain ⟨f, rfl⟩ : ∃ g, f = g + 1 := ⟨f - 1, by omega⟩
    obtain ⟨k, h, hk⟩ := hbefore 0 (by omega)
    rw [Nat.add_zero] at h
    unfold probe
    rw [h]
    simp only [if_neg hk]
    rw [mod_succ]
    rw [ih (x + 1) f (by omega) (Nat.mod_lt _ (by omega)) (fun e he => by
      have := hbefore (e + 1) (by omega)
      rwa [show x + 1 + e = x + (e + 1) by omega]) (by rwa [show x + 1 + d = x + (d + 1) by omega])]
    rw [show x + 1 + d = x + (d + 1) by omega]

/-- The ways W lead to the slots o, each by its own key, over h. -/
structure Wy (h : ByteArray → Nat) (W : List Nat) (κ : Nat → ByteArray) (o : List Nat) : Prop where
  keys : ∀ a b, a ∈ o → b ∈ o → κ a = κ b → a = b
  mem : ∀ p k : Nat, W[p]? = some (k + 1) → k ∈ o
  has : ∀ k : Nat, k ∈ o → ∃ p : Nat, W[p]? = some (k + 1)
  one : ∀ p q k : Nat, W[p]? = some (k + 1) → W[q]? = some (k + 1) → p = q
  path : ∀ p k : Nat, W[p]? = some (k + 1) → ∃ d, d < W.length ∧ p = (h (κ k) + d) % W.length ∧ ∀ e, e < d → W[(h (κ k) + e) % W.length]? ≠ some 0

theorem some_of_lt {W : List Nat} {p : Nat} (h : p < W.length) : ∃ m, W[p]? = some m := ⟨W[p], List.getElem?_eq_getElem h⟩

theorem Wy.found {h : ByteArray → Nat} {W : List Nat} {κ : Nat → ByteArray} {o : List Nat} (H : Wy h W κ o) {k : Nat} (hk : k ∈ o) :
    ∃ p : Nat, W[p]? = some (k + 1) ∧ probe W κ (κ k) W.length (h (κ k) % W.length) = some p := by
  obtain ⟨p, hp⟩ := H.has k hk
  obtain ⟨d, hd, hpd, hpath⟩ := H.path p k hp
  refine ⟨p, hp, ?_⟩
  have hN : 0 < W.length := by omega
  have := probe_walk (W := W) (κ := κ) (key := κ k) (h (κ k)) d 0 W.length hd (Nat.mod_lt _ hN) ?_ ?_
  · simp only [Nat.add_zero, Nat.zero_add] at this
    rw [this, hpd]
  · intro e he
    rw [Nat.zero_add]
    obtain ⟨m, hm⟩ := some_of_lt (W := W) (Nat.mod_lt (h (κ k) + e) hN)
    cases m with
    | zero => exact absurd hm (hpath e he)
    | succ m =>
      refine ⟨m, hm, fun hkk => ?_⟩
      have hmo := H.mem _ _ hm
      obtain rfl := H.keys _ _ hmo hk hkk
      have h1 := H.one _ _ _ hp hm
      rw [hpd] at h1
      have := mod_inj hd (by omega) h1
      omega
  · right
    rw [Nat.zero_add, ← hpd]
    exact ⟨k, hp, rfl⟩

/-- Not all places are full. -/
theorem Wy.hole {h : ByteArray → Nat} {W : List Nat} {κ : Nat → ByteArray} {o : List Nat} (H : Wy h W κ o) {m : Nat} (ho : ∀ k, k ∈ o → k < m) (hm : m < W.length) : ∃ p : Nat, p < W.length ∧ W[p]? = some 0 := by
  apply Classical.byContradiction
  intro hno
  have hall : ∀ p : Nat, p < W.length → ∃ k, W[p]? = some (k + 1) := by
    intro p hp
    obtain ⟨x, hx⟩ := some_of_lt hp
    cases x with
    | zero => exact absurd ⟨p, hp, hx⟩ hno
    | succ k => exact ⟨k, hx⟩
  have := pigeon m W.length (fun p => W.getD p 0 - 1) (fun p hp => by
    obtain ⟨k, hk⟩ := hall p hp
    have := ho k (H.mem _ _ hk)
    simp only [List.getD_eq_getElem?_getD, hk, Option.getD_some]
    omega) (fun p q hp hq he => by
    obtain ⟨k, hk⟩ := hall p hp
    obtain ⟨l, hl⟩ := hall q hq
    simp only [List.getD_eq_getElem?_getD, hk, hl, Option.getD_some] at he
    obtain rfl : k = l := by omega
    exact H.one _ _ _ hk hl)
  omega

/-- The first hole from a place on. -/
theorem first_hole {W : List Nat} (a : Nat) {n : Nat} (hh : W[(a + n) % W.length]? = some 0) (hn : n < W.length) :
    ∃ d, d ≤ n ∧ W[(a + d) % W.length]? = some 0 ∧ ∀ e, e < d → ∃ k, W[(a + e) % W.length]? = some (k + 1) := by
  obtain ⟨d, hd, h0, hb⟩ := least (P := fun d => W[(a + d) % W.length]? = some 0) hh
  refine ⟨d, hd, h0, fun e he => ?_⟩
  obtain ⟨x, hx⟩ := some_of_lt (W := W) (Nat.mod_lt (a + e) (by omega))
  cases x with
  | zero => exact absurd hx (hb e he)
  | succ k => exact ⟨k, hx⟩

theorem Wy.absent {h : ByteArray → Nat} {W : List Nat} {κ : Nat → ByteArray} {o : List Nat} (H : Wy h W κ o) {m : Nat} (ho : ∀ k, k ∈ o → k < m) (hm : m < W.length) {key : ByteArray} (hk : ∀ k, k ∈ o → κ k ≠ key) :
    ∃ d, d < W.length ∧ W[(h key + d) % W.length]? = some 0 ∧ (∀ e, e < d → W[(h key + e) % W.length]? ≠ some 0) ∧ probe W κ key W.length (h key % W.length) = some ((h key + d) % W.length) := by
  obtain ⟨p, hp, h0⟩ := H.hole ho hm
  obtain ⟨n, hn, rfl⟩ := mod_reach (a := h key) hp
  obtain ⟨d, hd, h1, hb⟩ := first_hole (h key) h0 hn
  refine ⟨d, by omega, h1, fun e he h2 => ?_, ?_⟩
  · obtain ⟨k, hk2⟩ := hb e he
    rw [hk2] at h2
    simp at h2
  · have := probe_walk (W := W) (κ := κ) (key := key) (h key) d 0 W.length (by omega) (Nat.mod_lt _ (by omega)) (fun e he => by
      obtain ⟨k, hk2⟩ := hb e he
      exact ⟨k, by rwa [Nat.zero_add], hk k (H.mem _ _ hk2)⟩) (.inl (by rwa [Nat.zero_add]))
    simpa using this

theorem set_get {W : List Nat} {p q x : Nat} (hp : p < W.length) : (W.set p x)[q]? = if q = p then some x else W[q]? := by
  rw [List.getElem?_set]
  by_cases hpq : p = q
  · subst hpq; simp [hp]
  · rw [if_neg hpq, if_neg (fun e => hpq e.symm)]

/-- A new key at its first hole. -/
theorem Wy.insert {h : ByteArray → Nat} {W : List Nat} {κ κ' : Nat → ByteArray} {o : List Nat} (H : Wy h W κ o) {k : Nat} (hko : k ∉ o) (hκ : ∀ a, a ∈ o → κ' a = κ a) (hnew : ∀ a, a ∈ o → κ a ≠ κ' k)
    {d : Nat} (hd : d < W.length) (h0 : W[(h (κ' k) + d) % W.length]? = some 0) (hb : ∀ e, e < d → W[(h (κ' k) + e) % W.length]? ≠ some 0) :
    Wy h (W.set ((h (κ' k) + d) % W.length) (k + 1)) κ' (o ++ [k]) := by
  have hz : (h (κ' k) + d) % W.length < W.length := Nat.mod_lt _ (by omega)
  refine ⟨?_, ?_, ?_, ?_, ?_⟩
  · intro a b ha hb2 he
    simp only [List.mem_append, List.mem_singleton] at ha hb2
    rcases ha with ha | rfl <;> rcases hb2 with hb2 | rfl
    · rw [hκ a ha, hκ b hb2] at he; exact H.keys a b ha hb2 he
    · rw [hκ a ha] at he; exact absurd he (hnew a ha)
    · rw [hκ b hb2] at he; exact absurd he.symm (hnew b hb2)
    · rfl
  · intro p j hp
    rw [set_get hz] at hp
    split at hp
    · simp at hp; subst hp; simp
    · exact List.mem_append_left _ (H.mem p j hp)
  · intro j hj
    simp only [List.mem_append, List.mem_singleton] at hj
    rcases hj with hj | rfl
    · obtain ⟨p, hp⟩ := H.has j hj
      refine ⟨p, ?_⟩
      rw [set_get hz, if_neg (fun e => ?_)]
      · exact hp
      · subst e; rw [h0] at hp; simp at hp
    · exact ⟨_, by rw [set_get hz, if_pos rfl]⟩
  · intro p q j hp hq
    rw [set_get hz] at hp hq
    split at hp <;> split at hq
    · omega
    · simp at hp; subst hp; exact absurd (H.mem _ _ hq) hko
    · simp at hq; subst hq; exact absurd (H.mem _ _ hp) hko
    · exact H.one _ _ _ hp hq
  · intro p j hp
    rw [set_get hz] at hp
    rw [List.length_set]
    split at hp
    · rename_i hpz
      simp at hp
      subst hp
      refine ⟨d, hd, hpz, fun e he => ?_⟩
      rw [set_get hz]
      split
      · simp
      · exact hb e he
    · have hjo := H.mem _ _ hp
      rw [hκ j hjo]
      obtain ⟨d', hd', hpd, hpath⟩ := H.path p j hp
      refine ⟨d', hd', hpd, fun e he => ?_⟩
      rw [set_get hz]
      split
      · simp
      · exact hpath e he

/-- While a key's followers are laid anew: from p on holes may lie, up to x; places from x on are as they were. -/
structure Mid (h : ByteArray → Nat) (W0 : List Nat) (p D : Nat) (W : List Nat) (κ : Nat → ByteArray) (o : List Nat) (x : Nat) : Prop where
  len : W.length = W0.length
  keys : ∀ a b, a ∈ o → b ∈ o → κ a = κ b → a = b
  mem : ∀ q k : Nat, W[q]? = some (k + 1) → k ∈ o
  has : ∀ k : Nat, k ∈ o → ∃ q : Nat, W[q]? = some (k + 1)
  one : ∀ q r k : Nat, W[q]? = some (k + 1) → W[r]? = some (k + 1) → q = r
  old : ∀ y, x ≤ y → y < W.length → W[(p + y) % W.length]? = W0[(p + y) % W.length]?
  path : ∀ q k : Nat, W[q]? = some (k + 1) → ∃ d, d < W.length ∧ q = (h (κ k) + d) % W.length ∧ ∀ e, e < d → W[(h (κ k) + e) % W.length]? ≠ some 0 ∨
    ((∃ u, u < x ∧ (h (κ k) + e) % W.length = (p + u) % W.length) ∧ ∃ y, x ≤ y ∧ y < D ∧ q = (p + y) % W.length)

theorem Wy.mid {h : ByteArray → Nat} {W : List Nat} {κ κ' : Nat → ByteArray} {o : List Nat} (H : Wy h W κ o) {k p : Nat} (hp : W[p]? = some (k + 1)) (hκ : ∀ a, a ∈ o → a ≠ k → κ' a = κ a) (hnd : o.Nodup)
    {D : Nat} (hz : W[(p + D) % W.length]? = some 0) :
    Mid h W p D (W.set p 0) κ' (o.erase k) 1 := by
  have hpl : p < W.length := (List.getElem?_eq_some_iff.1 hp).1
  have hmemE : ∀ a, a ∈ o.erase k ↔ a ≠ k ∧ a ∈ o := fun a => hnd.mem_erase_iff
  refine ⟨List.length_set, ?_, ?_, ?_, ?_, ?_, ?_⟩
  · intro a b ha hb he
    rw [hmemE] at ha hb
    rw [hκ a ha.2 ha.1, hκ b hb.2 hb.1] at he
    exact H.keys a b ha.2 hb.2 he
  · intro q j hq
    rw [set_get hpl] at hq
    split at hq
    · simp at hq
    · rw [hmemE]
      refine ⟨fun e => ?_, H.mem _ _ hq⟩
      subst e
      exact absurd (H.one _ _ _ hq hp) (by assumption)
  · intro j hj
    rw [hmemE] at hj
    obtain ⟨q, hq⟩ := H.has j hj.2
    refine ⟨q, ?_⟩
    rw [set_get hpl, if_neg (fun e => ?_)]
    · exact hq
    · subst e; rw [hp] at hq; simp at hq; exact hj.1 hq.symm
  · intro q r j hq hr
    rw [set_get hpl] at hq hr
    split at hq <;> split at hr
    · omega
    · simp at hq
    · simp at hr
    · exact H.one _ _ _ hq hr
  · intro y hy hyN
    rw [List.length_set] at hyN ⊢
    rw [set_get hpl, if_neg (fun e => ?_)]
    have h1 : (p + y) % W.length = (p + 0) % W.length := by rw [e, Nat.add_zero, Nat.mod_eq_of_lt hpl]
    have := mod_inj hyN (by omega) h1
    omega
  · intro q j hq
    rw [List.length_set]
    have hq' := hq
    rw [set_get hpl] at hq
    split at hq
    · simp at hq
    · rename_i hqp
      have hjo := H.mem _ _ hq
      have hjk : j ≠ k := fun e => by subst e; exact hqp (H.one _ _ _ hq hp)
      rw [hκ j hjo hjk]
      obtain ⟨d, hd, hqd, hpath⟩ := H.path q j hq
      refine ⟨d, hd, hqd, fun e he => ?_⟩
      by_cases hep : (h (κ j) + e) % W.length = p
      · right
        refine ⟨⟨0, by omega, by rw [Nat.add_zero, Nat.mod_eq_of_lt hpl]; exact hep⟩, d - e, by omega, ?_, ?_⟩
        · apply Classical.byContradiction
          intro hge
          have hge : D ≤ d - e := by omega
          have hpos : (h (κ j) + (e + D)) % W.length = (p + D) % W.length := by rw [← hep, mod_shift]
          rcases Nat.lt_or_ge (e + D) d with hlt | hge2
          · exact hpath (e + D) hlt (by rw [hpos]; exact hz)
          · have : e + D = d := by omega
            rw [this, ← hqd] at hpos
            rw [← hpos, hq] at hz
            simp at hz
        · rw [← hep, mod_shift, show e + (d - e) = d by omega]; exact hqd
      · left
        rw [set_get hpl, if_neg hep]
        exact hpath e he

/-- One follower is laid anew. -/
theorem Mid.step {h : ByteArray → Nat} {W0 : List Nat} {p D : Nat} {W : List Nat} {κ : Nat → ByteArray} {o : List Nat} {x : Nat} (H : Mid h W0 p D W κ o x)
    (hx : x < D) (hx0 : 0 < x) (hD : D < W.length) (hz : W0[(p + D) % W.length]? = some 0) {k : Nat} (hk : W[(p + x) % W.length]? = some (k + 1)) :
    ∃ z, probe (W.set ((p + x) % W.length) 0) κ (κ k) W.length (h (κ k) % W.length) = some z ∧ z < W.length ∧ (W.set ((p + x) % W.length) 0)[z]? = some 0 ∧
      Mid h W0 p D ((W.set ((p + x) % W.length) 0).set z (k + 1)) κ o (x + 1) := by
  have hN : 0 < W.length := by omega
  have hjl : (p + x) % W.length < W.length := Nat.mod_lt _ hN
  generalize hj : (p + x) % W.length = j at hk hjl ⊢
  obtain ⟨d, hd, hjd, hpath⟩ := H.path j k hk
  have hset : ∀ q : Nat, (W.set j 0)[q]? = if q = j then some 0 else W[q]? := fun q => set_get hjl
  have h0 : (W.set j 0)[(h (κ k) + d) % (W.set j 0).length]? = some 0 := by rw [List.length_set, ← hjd, hset, if_pos rfl]
  obtain ⟨d0, hd0, hz0, hb0⟩ := first_hole (W := W.set j 0) (h (κ k)) h0 (by rw [List.length_set]; exact hd)
  rw [List.length_set] at hz0
  have hb0' : ∀ e, e < d0 → ∃ m, (W.set j 0)[(h (κ k) + e) % W.length]? = some (m + 1) := fun e he => by
    have := hb0 e he
    rwa [List.length_set] at this
  have hko := H.mem _ _ hk
  have hzl : (h (κ k) + d0) % W.length < W.length := Nat.mod_lt _ hN
  refine ⟨(h (κ k) + d0) % W.length, ?_, hzl, hz0, ?_⟩
  · have := probe_walk (W := W.set j 0) (κ := κ) (key := κ k) (h (κ k)) d0 0 W.length (by omega) (by rw [List.length_set]; exact Nat.mod_lt _ hN) (fun e he => by
      obtain ⟨m, hm⟩ := hb0' e he
      refine ⟨m, by rw [List.length_set, Nat.zero_add]; exact hm, fun hkk => ?_⟩
      rw [hset] at hm
      split at hm
      · simp at hm
      · obtain rfl := H.keys _ _ (H.mem _ _ hm) hko hkk
        exact absurd (H.one _ _ _ hm hk) (by assumption)) (.inl (by rw [List.length_set, Nat.zero_add]; exact hz0))
    rw [List.length_set] at this
    simpa using this
  · generalize hzz : (h (κ k) + d0) % W.length = z at hz0 hzl ⊢
    -- z is the place itself, or a hole ahead of it
    have hzwhere : z = j ∨ ∃ u, u < x ∧ z = (p + u) % W.length := by
      rcases Nat.lt_or_ge d0 d with hlt | hge
      · rcases hpath d0 hlt with hne | ⟨⟨u, hu, he⟩, _⟩
        · left
          rw [hset] at hz0
          split at hz0
          · assumption
          · rw [hzz] at hne; exact absurd hz0 hne
        · right; exact ⟨u, hu, by rw [← hzz]; exact he⟩
      · left
        have : d0 = d := by omega
        rw [← hzz, this, ← hjd]
    have hget : ∀ q : Nat, ((W.set j 0).set z (k + 1))[q]? = if q = z then some (k + 1) else if q = j then some 0 else W[q]? := by
      intro q
      rw [set_get (by rw [List.length_set]; exact hzl)]
      split
      · rfl
      · exact hset q
    have hz0' : z ≠ j → W[z]? = some 0 := fun hne => by rwa [hset, if_neg hne] at hz0
    refine ⟨by rw [List.length_set, List.length_set]; exact H.len, H.keys, ?_, ?_, ?_, ?_, ?_⟩
    · intro q m hq
      rw [hget] at hq
      split at hq
      · simp at hq; subst hq; exact hko
      · split at hq
        · simp at hq
        · exact H.mem _ _ hq
    · intro m hm
      by_cases hmk : m = k
      · subst hmk; exact ⟨z, by rw [hget, if_pos rfl]⟩
      · obtain ⟨q, hq⟩ := H.has m hm
        refine ⟨q, ?_⟩
        have hqj : q ≠ j := fun e => by subst e; rw [hk] at hq; simp at hq; exact hmk hq.symm
        have hqz : q ≠ z := fun e => by
          subst e
          rw [hz0' hqj] at hq; simp at hq
        rw [hget, if_neg hqz, if_neg hqj]
        exact hq
    · intro q r m hq hr
      rw [hget] at hq hr
      split at hq
      · split at hr
        · omega
        · split at hr
          · simp at hr
          · simp at hq; subst hq
            exact absurd (H.one _ _ _ hr hk) (by assumption)
      · split at hq
        · simp at hq
        · split at hr
          · simp at hr; subst hr
            exact absurd (H.one _ _ _ hq hk) (by assumption)
          · split at hr
            · simp at hr
            · exact H.one _ _ _ hq hr
    · intro y hy hyN
      rw [List.length_set, List.length_set] at hyN ⊢
      have hyj : (p + y) % W.length ≠ j := fun e => by
        rw [← hj] at e
        have := mod_inj hyN (by omega) e
        omega
      have hyz : (p + y) % W.length ≠ z := fun e => by
        rcases hzwhere with h1 | ⟨u, hu, h1⟩
        · exact hyj (e.trans h1)
        · rw [h1] at e
          have := mod_inj hyN (by omega) e
          omega
      rw [hget, if_neg hyz, if_neg hyj]
      exact H.old y (by omega) hyN
    · intro q m hq
      rw [List.length_set, List.length_set]
      rw [hget] at hq
      split at hq
      · rename_i hqz
        simp at hq
        subst hq
        refine ⟨d0, by omega, by rw [hqz, ← hzz], fun e he => .inl ?_⟩
        rw [hget]
        split
        · simp
        · obtain ⟨m', hm'⟩ := hb0' e he
          rw [hset] at hm'
          split at hm'
          · simp at hm'
          · rename_i hne
            rw [if_neg hne, hm']; simp
      · split at hq
        · simp at hq
        · rename_i hqz hqj
          obtain ⟨d', hd', hqd', hpath'⟩ := H.path q m hq
          refine ⟨d', hd', hqd', fun e he => ?_⟩
          rcases hpath' e he with hne | ⟨⟨u, hu, he2⟩, y, hy1, hy2, hy3⟩
          · by_cases hej : (h (κ m) + e) % W.length = j
            · by_cases hez : (h (κ m) + e) % W.length = z
              · left; rw [hget, if_pos hez]; simp
              · right
                refine ⟨⟨x, by omega, by rw [hej, hj]⟩, x + (d' - e), by omega, ?_, ?_⟩
                · apply Classical.byContradiction
                  intro hge
                  have hpos : (h (κ m) + (e + (D - x))) % W.length = (p + D) % W.length := by
                    rw [← mod_shift, hej, ← hj, mod_shift, show x + (D - x) = D by omega]
                  have hzD : W[(p + D) % W.length]? = some 0 := by rw [H.old D (by omega) hD]; exact hz
                  rcases Nat.lt_or_ge (e + (D - x)) d' with hlt | hge2
                  · rcases hpath' _ hlt with h1 | ⟨⟨u, hu, h1⟩, _⟩
                    · rw [hpos] at h1; exact h1 hzD
                    · rw [hpos] at h1
                      have := mod_inj hD (by omega) h1
                      omega
                  · have : e + (D - x) = d' := by omega
                    rw [this, ← hqd'] at hpos
                    rw [← hpos, hq] at hzD
                    simp at hzD
                · rw [hqd', show d' = e + (d' - e) by omega, ← mod_shift, hej, ← hj, mod_shift, show e + (d' - e) - e = d' - e by omega]
            · left
              rw [hget]
              split
              · simp
              · exact hne
          · right
            refine ⟨⟨u, by omega, he2⟩, y, ?_, hy2, hy3⟩
            rcases Nat.lt_or_ge x y with h1 | h1
            · omega
            · exfalso
              have : y = x := by omega
              subst this
              exact hqj (hy3.trans hj)

theorem Mid.done {h : ByteArray → Nat} {W0 : List Nat} {p D : Nat} {W : List Nat} {κ : Nat → ByteArray} {o : List Nat} (H : Mid h W0 p D W κ o D) : Wy h W κ o :=
  ⟨H.keys, H.mem, H.has, H.one, fun q k hq => by
    obtain ⟨d, hd, hqd, hpath⟩ := H.path q k hq
    refine ⟨d, hd, hqd, fun e he => ?_⟩
    rcases hpath e he with h1 | ⟨_, y, h1, h2, _⟩
    · exact h1
    · omega⟩

end Go.Proofs.Ytapclgjelekijaa
