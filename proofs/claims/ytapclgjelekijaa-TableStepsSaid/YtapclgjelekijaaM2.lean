import Derived.Test.YtapclgjelekijaaM1
/-! The table's plain model: what its acts do. -/
namespace Go.Proofs.Ytapclgjelekijaa

def fnv (h c : Nat) : Nat := ((h ^^^ c) * 1099511628211) % 18446744073709551616
def hsumL (l : List UInt8) : Nat := l.foldl (fun h c => fnv h c.toNat) 14695981039346656037
theorem hsumL_snoc (l : List UInt8) (c : UInt8) : hsumL (l ++ [c]) = fnv (hsumL l) c.toNat := by
  unfold hsumL
  rw [List.foldl_append, List.foldl_cons, List.foldl_nil]
theorem fnv_lt (h c : Nat) : fnv h c < 18446744073709551616 := Nat.mod_lt _ (by decide)
theorem hsumL_lt (l : List UInt8) : hsumL l < 18446744073709551616 := by
  rcases List.eq_nil_or_concat l with rfl | ⟨l', c, rfl⟩
  · unfold hsumL; rw [List.foldl_nil]; omega
  · rw [List.concat_eq_append, hsumL_snoc]; exact fnv_lt _ _
def hsum (s : ByteArray) : Nat := hsumL s.data.toList

structure Rep (R : Ring) (o : List Nat) : Prop where
  len : R.ways.length = 2 * R.room + 1
  cap : R.slots.length ≤ R.room
  room : R.room ≤ 10000
  lnk : Lnk R.slots R.first R.last o
  fnd : R.free.Nodup
  flt : ∀ k : Nat, k ∈ R.free → k < R.slots.length
  dis : ∀ k : Nat, k ∈ o → k ∉ R.free
  cnt : R.slots.length = o.length + R.free.length
  wy : Wy hsum R.ways R.key o

def Ring.cut (R : Ring) (k : Nat) : Ring := match R.slots[k]? with
  | none => R
  | some s => { R with slots := cutS R.slots s, first := cutFirst R.first s, last := cutLast R.last s }
def Ring.lay (R : Ring) (k : Nat) : Ring := { R with slots := layS R.slots R.last k, first := layFirst R.first R.last k, last := some k }

theorem Ring.cut_some {R : Ring} {k : Nat} {s : Slot} (h : R.slots[k]? = some s) : R.cut k = { R with slots := cutS R.slots s, first := cutFirst R.first s, last := cutLast R.last s } := by
  unfold Ring.cut; rw [h]

theorem Ring.key_of_get {R R' : Ring} {a : Nat} {f : Slot → Slot} (hf : ∀ s, (f s).key = s.key) (h : R'.slots[a]? = (R.slots[a]?).map f) : R'.key a = R.key a := by
  unfold Ring.key
  rw [h]
  cases R.slots[a]? with
  | none => rfl
  | some s => simp [hf]
theorem Ring.val_of_get {R R' : Ring} {a : Nat} {f : Slot → Slot} (hf : ∀ s, (f s).v = s.v) (h : R'.slots[a]? = (R.slots[a]?).map f) : R'.val a = R.val a := by
  unfold Ring.val
  rw [h]
  cases R.slots[a]? with
  | none => rfl
  | some s => simp [hf]

theorem Ring.cut_key (R : Ring) (k a : Nat) : (R.cut k).key a = R.key a := by
  unfold Ring.cut
  cases h : R.slots[k]? with
  | none => rfl
  | some s => exact Ring.key_of_get (R := R) (f := fun t => { t with next := if s.prev = some a then s.next else t.next, prev := if s.next = some a then s.prev else t.prev }) (fun _ => rfl) (cutS_get R.slots s a)
theorem Ring.cut_val (R : Ring) (k a : Nat) : (R.cut k).val a = R.val a := by
  unfold Ring.cut
  cases h : R.slots[k]? with
  | none => rfl
  | some s => exact Ring.val_of_get (R := R) (f := fun t => { t with next := if s.prev = some a then s.next else t.next, prev := if s.next = some a then s.prev else t.prev }) (fun _ => rfl) (cutS_get R.slots s a)
theorem Ring.lay_key (R : Ring) {k : Nat} (hk : R.last ≠ some k) (a : Nat) : (R.lay k).key a = R.key a :=
  Ring.key_of_get (R := R) (R' := R.lay k) (f := fun t => { t with next := if a = k then none else if R.last = some a then some k else t.next, prev := if a = k then R.last else t.prev }) (fun _ => rfl) (layS_get R.slots hk a)
theorem Ring.lay_val (R : Ring) {k : Nat} (hk : R.last ≠ some k) (a : Nat) : (R.lay k).val a = R.val a :=
  Ring.val_of_get (R := R) (R' := R.lay k) (f := fun t => { t with next := if a = k then none else if R.last = some a then some k else t.next, prev := if a = k then R.last else t.prev }) (fun _ => rfl) (layS_get R.slots hk a)

theorem Wy.congr {h : ByteArray → Nat} {W : List Nat} {κ κ' : Nat → ByteArray} {o o' : List Nat} (H : Wy h W κ o) (hk : ∀ a, a ∈ o → κ' a = κ a) (ho : ∀ a, a ∈ o' ↔ a ∈ o) : Wy h W κ' o' :=
  ⟨fun a b ha hb he => by rw [ho] at ha hb; rw [hk a ha, hk b hb] at he; exact H.keys a b ha hb he,
   fun p k hp => (ho k).2 (H.mem p k hp), fun k hk2 => H.has k ((ho k).1 hk2), H.one,
   fun p k hp => by rw [hk k (H.mem p k hp)]; exact H.path p k hp⟩

/-- Cut out, and laid behind all. -/
theorem Rep.touch {R : Ring} {o : List Nat} (H : Rep R o) {k : Nat} (hk : k ∈ o) :
    Rep ((R.cut k).lay k) (o.erase k ++ [k]) ∧ (∀ a, ((R.cut k).lay k).key a = R.key a) ∧ (∀ a, ((R.cut k).lay k).val a = R.val a) := by
  have hkl := H.lnk.lt k hk
  obtain ⟨l1, l2, hnot, ho⟩ : ∃ l1 l2, k ∉ l1 ∧ o = l1 ++ k :: l2 := by
    obtain ⟨l1, l2, h1, h2, _⟩ := List.exists_erase_eq hk
    exact ⟨l1, l2, h1, h2⟩
  have he : o.erase k = l1 ++ l2 := by
    rw [ho, List.erase_append_right _ hnot]
    simp
  have hs : R.slots[k]? = some R.slots[k] := List.getElem?_eq_getElem hkl
  generalize R.slots[k] = s at hs
  have hcut := Ring.cut_some hs
  have L0 := H.lnk
  rw [ho] at L0
  have L1 := L0.cut hs
  have hkn : k ∉ l1 ++ l2 := by
    have := H.lnk.nd
    rw [ho, List.nodup_append] at this
    obtain ⟨_, h2, h3⟩ := this
    rw [List.nodup_cons] at h2
    simp only [List.mem_append, not_or]
    exact ⟨hnot, h2.1⟩
  have L2 := L1.lay hkn (by rw [cutS_length]; exact hkl)
  have hlast : (R.cut k).last ≠ some k := by
    rw [hcut]
    show cutLast R.last s ≠ some k
    rw [L1.lst]
    exact fun e => hkn (getLast?_mem e)
  have hkey : ∀ a, ((R.cut k).lay k).key a = R.key a := fun a => (Ring.lay_key _ hlast a).trans (Ring.cut_key R k a)
  have hval : ∀ a, ((R.cut k).lay k).val a = R.val a := fun a => (Ring.lay_val _ hlast a).trans (Ring.cut_val R k a)
  have hmem : ∀ a, a ∈ o.erase k ++ [k] ↔ a ∈ o := by
    intro a
    rw [he, ho]
    simp only [List.mem_append, List.mem_cons, List.not_mem_nil, or_false]
    constructor
    · rintro ((h | h) | h)
      · exact .inl h
      · exact .inr (.inr h)
      · exact .inr (.inl h)
    · rintro (h | h | h)
      · exact .inl (.inl h)
      · exact .inr h
      · exact .inl (.inr h)
  have hwy := H.wy.congr (κ' := ((R.cut k).lay k).key) (o' := o.erase k ++ [k]) (fun a _ => hkey a) hmem
  refine ⟨?_, hkey, hval⟩
  rw [hcut] at hwy ⊢
  refine ⟨H.len, ?_, H.room, ?_, H.fnd, ?_, ?_, ?_, hwy⟩
  · show (layS (cutS R.slots s) _ k).length ≤ _
    rw [layS_length, cutS_length]; exact H.cap
  · rw [he]; exact L2
  · intro a ha
    show a < (layS (cutS R.slots s) _ k).length
    rw [layS_length, cutS_length]
    exact H.flt a ha
  · intro a ha
    rw [hmem] at ha
    exact H.dis a ha
  · show (layS (cutS R.slots s) _ k).length = (o.erase k ++ [k]).length + R.free.length
    rw [layS_length, cutS_length, H.cnt, he, ho]
    simp

/-- A value is set. -/
theorem Rep.setVal {R : Ring} {o : List Nat} (H : Rep R o) {k : Nat} (hk : k ∈ o) (n : Int) :
    Rep { R with slots := R.slots.modify k fun t => { t with v := n } } o ∧
    (∀ a, ({ R with slots := R.slots.modify k fun t => { t with v := n } } : Ring).key a = R.key a) ∧
    (∀ a, ({ R with slots := R.slots.modify k fun t => { t with v := n } } : Ring).val a = if a = k then n else R.val a) := by
  have hkl := H.lnk.lt k hk
  have hkey : ∀ a, ({ R with slots := R.slots.modify k fun t => { t with v := n } } : Ring).key a = R.key a := fun a => by
    refine Ring.key_of_get (R := R) (f := fun t => if k = a then { t with v := n } else t) (fun s => by split <;> rfl) ?_
    show (R.slots.modify k fun t => { t with v := n })[a]? = _
    rw [List.getElem?_modify]
    rfl
  refine ⟨⟨H.len, by simpa using H.cap, H.room, ?_, H.fnd, fun a ha => by simpa using H.flt a ha, H.dis, by simpa using H.cnt, H.wy.congr (fun a _ => hkey a) (fun _ => Iff.rfl)⟩, hkey, ?_⟩
  · refine H.lnk.same (by simp) (fun a s' ha hs' => ?_)
    simp only [List.getElem?_modify] at hs'
    cases hSa : R.slots[a]? with
    | none => rw [hSa] at hs'; simp at hs'
    | some t =>
      rw [hSa] at hs'
      simp at hs'
      subst hs'
      exact ⟨t, rfl, by split <;> rfl, by split <;> rfl⟩
  · intro a
    show (((R.slots.modify k fun t => { t with v := n })[a]?).map Slot.v).getD 0 = _
    rw [List.getElem?_modify]
    unfold Ring.val
    by_cases h : k = a
    · subst h
      rw [List.getElem?_eq_getElem hkl]
      simp
    · rw [if_neg (fun e => h e.symm)]
      cases R.slots[a]? with
      | none => rfl
      | some s => simp [h]

/-- A new key in a slot that is free: of those that there are, or a new one. -/
theorem Rep.put {R : Ring} {o : List Nat} (H : Rep R o) {key : ByteArray} {n : Int} (hkey : ∀ a, a ∈ o → R.key a ≠ key) {S : List Slot} {fr : List Nat} {k : Nat}
    (hS : S.length ≤ R.room) (hSR : ∀ a, a ∈ o → S[a]? = R.slots[a]?) (hle : R.slots.length ≤ S.length) (hfr : fr.Nodup) (hfs : ∀ a, a ∈ fr → a ∈ R.free ∧ a ≠ k) (hko : k ∉ o) (hkS : k < S.length) (hcnt : S.length = o.length + 1 + fr.length)
    {d : Nat} (hd : d < R.ways.length) (h0 : R.ways[(hsum key + d) % R.ways.length]? = some 0) (hb : ∀ e, e < d → R.ways[(hsum key + e) % R.ways.length]? ≠ some 0) :
    Rep (({ R with slots := S.set k ⟨key, n, some 0, some 0⟩, free := fr, ways := R.ways.set ((hsum key + d) % R.ways.length) (k + 1) } : Ring).lay k) (o ++ [k]) ∧
    (∀ a, a ∈ o → (({ R with slots := S.set k ⟨key, n, some 0, some 0⟩, free := fr, ways := R.ways.set ((hsum key + d) % R.ways.length) (k + 1) } : Ring).lay k).key a = R.key a) ∧
    (∀ a, a ∈ o → (({ R with slots := S.set k ⟨key, n, some 0, some 0⟩, free := fr, ways := R.ways.set ((hsum key + d) % R.ways.length) (k + 1) } : Ring).lay k).val a = R.val a) ∧
    (({ R with slots := S.set k ⟨key, n, some 0, some 0⟩, free := fr, ways := R.ways.set ((hsum key + d) % R.ways.length) (k + 1) } : Ring).lay k).key k = key ∧
    (({ R with slots := S.set k ⟨key, n, some 0, some 0⟩, free := fr, ways := R.ways.set ((hsum key + d) % R.ways.length) (k + 1) } : Ring).lay k).val k = n := by
  generalize hW : R.ways.set ((hsum key + d) % R.ways.length) (k + 1) = W
  obtain ⟨R1, hR1⟩ : ∃ R1 : Ring, R1 = { R with slots := S.set k ⟨key, n, some 0, some 0⟩, free := fr, ways := W } := ⟨_, rfl⟩
  rw [← hR1]
  have hget : ∀ a, a ∈ o → R1.slots[a]? = R.slots[a]? := by
    intro a ha
    have : k ≠ a := fun e => by subst e; exact hko ha
    rw [hR1]
    show (S.set k _)[a]? = _
    rw [List.getElem?_set_ne this]
    exact hSR a ha
  have hgetk : R1.slots[k]? = some ⟨key, n, some 0, some 0⟩ := by
    rw [hR1]
    show (S.set k _)[k]? = _
    rw [List.getElem?_set]
    simp [hkS]
  have hlast : R1.last ≠ some k := by
    rw [hR1]
    show R.last ≠ some k
    rw [H.lnk.lst]
    exact fun e => hko (getLast?_mem e)
  have hk1 : ∀ a, a ∈ o → R1.key a = R.key a := fun a ha => by unfold Ring.key; rw [hget a ha]
  have hv1 : ∀ a, a ∈ o → R1.val a = R.val a := fun a ha => by unfold Ring.val; rw [hget a ha]
  have hkk : R1.key k = key := by unfold Ring.key; rw [hgetk]; rfl
  have hvk : R1.val k = n := by unfold Ring.val; rw [hgetk]; rfl
  refine ⟨?_, fun a ha => (Ring.lay_key R1 hlast a).trans (hk1 a ha), fun a ha => (Ring.lay_val R1 hlast a).trans (hv1 a ha), (Ring.lay_key R1 hlast k).trans hkk, (Ring.lay_val R1 hlast k).trans hvk⟩
  have hl1 : R1.slots.length = S.length := by rw [hR1]; simp
  have L1 : Lnk R1.slots R1.first R1.last o := by
    have := H.lnk.same (S' := R1.slots) (by rw [hl1]; exact hle) (fun a s' ha hs' => ⟨s', by rw [← hget a ha]; exact hs', rfl, rfl⟩)
    rw [hR1] at this ⊢
    exact this
  have L2 := L1.lay hko (by rw [hl1]; exact hkS)
  have hwy := H.wy.insert (κ' := R1.key) (k := k) hko hk1 (fun a ha => by rw [hkk]; exact hkey a ha) (d := d) hd (by rw [hkk]; exact h0) (by rw [hkk]; exact hb)
  rw [hkk, hW] at hwy
  have hwy2 := hwy.congr (κ' := (R1.lay k).key) (o' := o ++ [k]) (fun a _ => Ring.lay_key R1 hlast a) (fun _ => Iff.rfl)
  have hways : R1.ways = W := by rw [hR1]
  have hroom : R1.room = R.room := by rw [hR1]
  have hfree : R1.free = fr := by rw [hR1]
  have hll : (layS R1.slots R1.last k).length = S.length := by rw [layS_length, hl1]
  refine ⟨?_, ?_, ?_, L2, ?_, ?_, ?_, ?_, ?_⟩
  · show R1.ways.length = 2 * R1.room + 1
    rw [hways, hroom, ← hW, List.length_set]
    exact H.len
  · show (layS R1.slots R1.last k).length ≤ R1.room
    rw [hll, hroom]; exact hS
  · show R1.room ≤ _
    rw [hroom]; exact H.room
  · show R1.free.Nodup
    rw [hfree]; exact hfr
  · intro a ha
    have ha2 : a ∈ fr := by rw [← hfree]; exact ha
    show a < (layS R1.slots R1.last k).length
    rw [hll]
    exact Nat.lt_of_lt_of_le (H.flt a (hfs a ha2).1) hle
  · intro a ha hf
    have ha2 : a ∈ fr := by rw [← hfree]; exact hf
    simp only [List.mem_append, List.mem_singleton] at ha
    rcases ha with ha | rfl
    · exact H.dis a ha (hfs a ha2).1
    · exact (hfs a ha2).2 rfl
  · show (layS R1.slots R1.last k).length = (o ++ [k]).length + R1.free.length
    rw [hll, hfree, hcnt]
    simp
  · show Wy hsum R1.ways _ _
    rw [hways]
    exact hwy2

theorem erase_mem {o : List Nat} (hnd : o.Nodup) (k a : Nat) : a ∈ o.erase k ↔ a ≠ k ∧ a ∈ o := hnd.mem_erase_iff

/-- A key is taken out; W are the ways behind it, laid anew. -/
theorem Rep.drop {R : Ring} {o : List Nat} (H : Rep R o) {k : Nat} (hk : k ∈ o) {W : List Nat} (hWl : W.length = R.ways.length)
    (hW : Wy hsum W ({ R.cut k with slots := (R.cut k).slots.set k zeroSlot } : Ring).key (o.erase k)) :
    Rep { R.cut k with slots := (R.cut k).slots.set k zeroSlot, free := R.free ++ [k], ways := W } (o.erase k) ∧
    (∀ a, a ∈ o.erase k → ({ R.cut k with slots := (R.cut k).slots.set k zeroSlot, free := R.free ++ [k], ways := W } : Ring).key a = R.key a) ∧
    (∀ a, a ∈ o.erase k → ({ R.cut k with slots := (R.cut k).slots.set k zeroSlot, free := R.free ++ [k], ways := W } : Ring).val a = R.val a) := by
  have hkl := H.lnk.lt k hk
  obtain ⟨l1, l2, hnot, ho⟩ : ∃ l1 l2, k ∉ l1 ∧ o = l1 ++ k :: l2 := by
    obtain ⟨l1, l2, h1, h2, _⟩ := List.exists_erase_eq hk
    exact ⟨l1, l2, h1, h2⟩
  have he : o.erase k = l1 ++ l2 := by
    rw [ho, List.erase_append_right _ hnot]
    simp
  have hs : R.slots[k]? = some R.slots[k] := List.getElem?_eq_getElem hkl
  generalize R.slots[k] = s at hs
  have hcut := Ring.cut_some hs
  have L0 := H.lnk
  rw [ho] at L0
  have L1 := L0.cut hs
  rw [← he] at L1
  have hcl : (R.cut k).slots.length = R.slots.length := by rw [hcut]; exact cutS_length _ _
  have hget : ∀ a, a ∈ o.erase k → ((R.cut k).slots.set k zeroSlot)[a]? = (R.cut k).slots[a]? := by
    intro a ha
    rw [erase_mem H.lnk.nd] at ha
    rw [List.getElem?_set_ne (fun e => ha.1 e.symm)]
  refine ⟨⟨?_, ?_, ?_, ?_, ?_, ?_, ?_, ?_, ?_⟩, ?_, ?_⟩
  · show W.length = 2 * (R.cut k).room + 1
    rw [hWl, hcut]; exact H.len
  · show ((R.cut k).slots.set k zeroSlot).length ≤ (R.cut k).room
    rw [List.length_set, hcl, hcut]; exact H.cap
  · rw [hcut]; exact H.room
  · show Lnk ((R.cut k).slots.set k zeroSlot) (R.cut k).first (R.cut k).last (o.erase k)
    have : Lnk (R.cut k).slots (R.cut k).first (R.cut k).last (o.erase k) := by rw [hcut]; exact L1
    exact this.same (by simp) (fun a s' ha hs' => ⟨s', by rw [← hget a ha]; exact hs', rfl, rfl⟩)
  · show (R.free ++ [k]).Nodup
    rw [List.nodup_append]
    exact ⟨H.fnd, by simp, fun a ha b hb => by simp at hb; subst hb; intro e; subst e; exact H.dis a hk ha⟩
  · intro a ha
    show a < ((R.cut k).slots.set k zeroSlot).length
    rw [List.length_set, hcl]
    have ha : a ∈ R.free ++ [k] := ha
    simp only [List.mem_append, List.mem_singleton] at ha
    rcases ha with ha | rfl
    · exact H.flt a ha
    · exact hkl
  · intro a ha hf
    rw [erase_mem H.lnk.nd] at ha
    have hf : a ∈ R.free ++ [k] := hf
    simp only [List.mem_append, List.mem_singleton] at hf
    rcases hf with hf | hf
    · exact H.dis a ha.2 hf
    · exact ha.1 hf
  · show ((R.cut k).slots.set k zeroSlot).length = (o.erase k).length + (R.free ++ [k]).length
    rw [List.length_set, hcl, H.cnt, he, ho]
    simp
    omega
  · exact hW
  · intro a ha
    refine Eq.trans ?_ (Ring.cut_key R k a)
    show (((((R.cut k).slots.set k zeroSlot)[a]?)).map Slot.key).getD _ = _
    rw [hget a ha]; rfl
  · intro a ha
    refine Eq.trans ?_ (Ring.cut_val R k a)
    show (((((R.cut k).slots.set k zeroSlot)[a]?)).map Slot.v).getD _ = _
    rw [hget a ha]; rfl

/-! #### the table as a list of keys and values -/
def Lst (R : Ring) (o : List Nat) : List (ByteArray × Int) := o.map fun k => (R.key k, R.val k)
def without (L : List (ByteArray × Int)) (key : ByteArray) : List (ByteArray × Int) := L.filter fun p => p.1 ≠ key
def look (L : List (ByteArray × Int)) (key : ByteArray) : Option Int := (L.find? fun p => p.1 = key).map (·.2)

theorem Lst_without {R : Ring} {o : List Nat} (H : Rep R o) {k : Nat} (hk : k ∈ o) : Lst R (o.erase k) = without (Lst R o) (R.key k) := by
  unfold Lst without
  rw [H.lnk.nd.erase_eq_filter, List.filter_map]
  congr 1
  refine List.filter_congr (fun a ha => ?_)
  have : a = k ↔ R.key a = R.key k := ⟨fun e => by rw [e], fun e => H.wy.keys a k ha hk e⟩
  rw [Bool.eq_iff_iff]
  simp [this]
theorem look_some {R : Ring} {o : List Nat} (H : Rep R o) {k : Nat} (hk : k ∈ o) : look (Lst R o) (R.key k) = some (R.val k) := by
  unfold look Lst
  rw [List.find?_map]
  have : List.find? ((fun p : ByteArray × Int => decide (p.1 = R.key k)) ∘ fun k => (R.key k, R.val k)) o = some k := by
    have hx := H.wy.keys
    have hall : ∀ o' : List Nat, (∀ a, a ∈ o' → a ∈ o) → k ∈ o' → List.find? ((fun p : ByteArray × Int => decide (p.1 = R.key k)) ∘ fun k => (R.key k, R.val k)) o' = some k := by
      intro o'
      induction o' with
      | nil => intro _ h; simp at h
      | cons a o' ih =>
        intro hs hm
        by_cases hak : R.key a = R.key k
        · have : a = k := hx a k (hs a (by simp)) hk hak
          subst this
          simp
        · rw [List.find?_cons_of_neg (by simpa using hak)]
          refine ih (fun b hb => hs b (by simp [hb])) ?_
          rcases List.mem_cons.1 hm with h | h
          · subst h; exact absurd rfl hak
          · exact h
    exact hall o (fun _ h => h) hk
  rw [this]
  rfl
theorem look_none {R : Ring} {o : List Nat} {key : ByteArray} (hk : ∀ a, a ∈ o → R.key a ≠ key) : look (Lst R o) key = none := by
  unfold look Lst
  rw [List.find?_map]
  have : List.find? ((fun p : ByteArray × Int => decide (p.1 = key)) ∘ fun k => (R.key k, R.val k)) o = none := by
    rw [List.find?_eq_none]
    intro a ha
    simpa using hk a ha
  rw [this]; rfl
/-- A key is one of a slot's, or of none's. -/
theorem key_cases (R : Ring) (o : List Nat) (key : ByteArray) : (∃ k, k ∈ o ∧ R.key k = key) ∨ ∀ a, a ∈ o → R.key a ≠ key := by
  by_cases h : ∃ k, k ∈ o ∧ R.key k = key
  · exact .inl h
  · exact .inr fun a ha e => h ⟨a, ha, e⟩

theorem Rep.found {R : Ring} {o : List Nat} (H : Rep R o) {k : Nat} (hk : k ∈ o) :
    ∃ p : Nat, p < R.ways.length ∧ R.ways[p]? = some (k + 1) ∧ probe R.ways R.key (R.key k) R.ways.length (hsum (R.key k) % R.ways.length) = some p := by
  obtain ⟨p, h1, h2⟩ := H.wy.found hk
  exact ⟨p, (List.getElem?_eq_some_iff.1 h1).1, h1, h2⟩
theorem Rep.absent {R : Ring} {o : List Nat} (H : Rep R o) {key : ByteArray} (hk : ∀ a, a ∈ o → R.key a ≠ key) :
    ∃ d, d < R.ways.length ∧ R.ways[(hsum key + d) % R.ways.length]? = some 0 ∧ (∀ e, e < d → R.ways[(hsum key + e) % R.ways.length]? ≠ some 0) ∧
      probe R.ways R.key key R.ways.length (hsum key % R.ways.length) = some ((hsum key + d) % R.ways.length) :=
  H.wy.absent (m := R.slots.length) (fun k hk => H.lnk.lt k hk) (by have := H.len; have := H.cap; omega) hk

/-- The first empty place behind one. -/
theorem Rep.gap {R : Ring} {o : List Nat} (H : Rep R o) {p k : Nat} (hp : R.ways[p]? = some (k + 1)) :
    ∃ D, 0 < D ∧ D < R.ways.length ∧ R.ways[(p + D) % R.ways.length]? = some 0 ∧ ∀ y, 0 < y → y < D → ∃ m, R.ways[(p + y) % R.ways.length]? = some (m + 1) := by
  have hpl := (List.getElem?_eq_some_iff.1 hp).1
  obtain ⟨q, hq, hq0⟩ := H.wy.hole (m := R.slots.length) (fun k hk => H.lnk.lt k hk) (by have := H.len; have := H.cap; omega)
  obtain ⟨n, hn, rfl⟩ := mod_reach (a := p) hq
  have hn0 : 0 < n := by
    rcases Nat.eq_zero_or_pos n with h | h
    · subst h
      rw [Nat.add_zero, Nat.mod_eq_of_lt hpl, hp] at hq0
      simp at hq0
    · exact h
  obtain ⟨D, hD, ⟨h1, h2⟩, h3⟩ := least (P := fun d => 0 < d ∧ R.ways[(p + d) % R.ways.length]? = some 0) (n := n) ⟨hn0, hq0⟩
  refine ⟨D, h1, by omega, h2, fun y hy hyD => ?_⟩
  obtain ⟨x, hx⟩ := some_of_lt (W := R.ways) (Nat.mod_lt (p + y) (by omega))
  cases x with
  | zero => exact absurd ⟨hy, hx⟩ (h3 y hyD)
  | succ m => exact ⟨m, hx⟩

end Go.Proofs.Ytapclgjelekijaa
