import Derived.Test.YtapclgjelekijaaC1
/-! A table of the call's own, and what is kept beside it. -/
namespace Go.Proofs.Ytapclgjelekijaa
open Go.RowKit
set_option linter.unusedSimpArgs false
set_option linter.unusedVariables false

/-- What a list of a table is: keys in bounds, each once, in its room. -/
structure Good (room : Nat) (L : List (ByteArray × Int)) : Prop where
  ks : ∀ q, q ∈ L → q.1.size ≤ 140737488355328
  nd : (L.map (·.1)).Nodup
  le : L.length ≤ room
theorem Good.nil (room : Nat) : Good room [] := ⟨fun q h => by simp at h, by simp, by simp⟩
theorem without_mem {L : List (ByteArray × Int)} {key : ByteArray} {q : ByteArray × Int} : q ∈ without L key ↔ q ∈ L ∧ q.1 ≠ key := by
  unfold without
  rw [List.mem_filter]
  simp
theorem without_keys (L : List (ByteArray × Int)) (key : ByteArray) : (without L key).map (·.1) = (L.map (·.1)).filter (· ≠ key) := by
  unfold without
  rw [List.filter_map]
  rfl
theorem look_isSome {L : List (ByteArray × Int)} {key : ByteArray} : (look L key).isSome = true ↔ key ∈ L.map (·.1) := by
  unfold look
  rw [Option.isSome_map, List.find?_isSome, List.mem_map]
  constructor
  · rintro ⟨x, h1, h2⟩; exact ⟨x, h1, by simpa using h2⟩
  · rintro ⟨x, h1, h2⟩; exact ⟨x, h1, by simpa using h2⟩
theorem look_eq_none {L : List (ByteArray × Int)} {key : ByteArray} : look L key = none ↔ key ∉ L.map (·.1) := by
  rw [← look_isSome]
  cases look L key <;> simp
theorem without_absent {L : List (ByteArray × Int)} {key : ByteArray} (h : key ∉ L.map (·.1)) : without L key = L := by
  unfold without
  refine List.filter_eq_self.2 fun q hq => ?_
  simp only [ne_eq, decide_not, Bool.not_eq_true', decide_eq_false_iff_not]
  exact fun e => h (List.mem_map.2 ⟨q, hq, e⟩)
theorem Good.without {room : Nat} {L : List (ByteArray × Int)} (H : Good room L) (key : ByteArray) : Good room (without L key) := by
  refine ⟨fun q hq => H.ks q (without_mem.1 hq).1, ?_, ?_⟩
  · rw [without_keys]
    exact H.nd.filter _
  · exact Nat.le_trans (List.length_filter_le _ _) H.le
theorem without_length {L : List (ByteArray × Int)} {key : ByteArray} (h : key ∈ L.map (·.1)) : (without L key).length < L.length := by
  unfold without
  obtain ⟨q, hq, he⟩ := List.mem_map.1 h
  rcases Nat.lt_or_ge (L.filter fun p => p.1 ≠ key).length L.length with h1 | h1
  · exact h1
  · have h2 := List.length_filter_eq_length_iff.1 (Nat.le_antisymm (List.length_filter_le _ _) h1) q hq
    simp at h2
    exact absurd he h2
theorem Good.snoc {room : Nat} {L : List (ByteArray × Int)} (H : Good room L) (key : ByteArray) (n : Int) (hk : key.size ≤ 140737488355328) (hl : (Ytapclgjelekijaa.without L key).length < room) : Good room (Ytapclgjelekijaa.without L key ++ [(key, n)]) := by
  refine ⟨fun q hq => ?_, ?_, ?_⟩
  · rcases List.mem_append.1 hq with h | h
    · exact H.ks q (without_mem.1 h).1
    · simp at h; subst h; exact hk
  · rw [List.map_append, List.nodup_append]
    refine ⟨(H.without key).nd, by simp, fun a ha b hb => ?_⟩
    simp at hb
    subst hb
    rw [without_keys, List.mem_filter] at ha
    simpa using ha.2
  · rw [List.length_append]
    simp
    omega
theorem Good.put {room : Nat} {L : List (ByteArray × Int)} (H : Good room L) (key : ByteArray) (n : Int) (hk : key.size ≤ 140737488355328) : Good room (putL room L key n).1 := by
  unfold putL
  split
  · rename_i h
    refine H.snoc key n hk ?_
    simp only [Bool.or_eq_true, decide_eq_true_eq] at h
    rcases h with h | h
    · exact Nat.lt_of_lt_of_le (without_length (look_isSome.1 h)) H.le
    · exact Nat.lt_of_le_of_lt (List.length_filter_le _ _) h
  · exact H
theorem Good.get {room : Nat} {L : List (ByteArray × Int)} (H : Good room L) (key : ByteArray) (hk : key.size ≤ 140737488355328) : Good room (getL L key) := by
  unfold getL
  split
  · rename_i n h
    exact H.snoc key n hk (Nat.lt_of_lt_of_le (without_length (look_isSome.1 (by rw [h]; rfl))) H.le)
  · exact H
theorem Good.do' {room : Nat} {L : List (ByteArray × Int)} (H : Good room L) (d : Act3) (hk : d.key.size ≤ 140737488355328) : Good room (doL room L d).1 := by
  unfold doL
  split
  · exact H.put _ _ hk
  · split
    · exact H.get _ hk
    · split
      · exact H.without _
      · exact H

/-- What stands beside a table's blocks F, and stays when only these turn. -/
def Stab (Q : World → (Nat → Prop) → Prop) : Prop := ∀ wr w' F F', Q wr F → Fr F wr w' → (∀ k, F' k → F k ∨ wr.heap.size ≤ k) → Q w' F'
structure Hld (w wr : World) (b room : Nat) (L : List (ByteArray × Int)) (Q : World → (Nat → Prop) → Prop) : Prop where
  tab : ∃ F, TabAt wr w.heap.size b room L F ∧ (∀ k, F k → w.heap.size ≤ k ∧ k < wr.heap.size) ∧ Q wr F
  bel : Below w.heap.size w wr
  stab : Stab Q
  good : Good room L
def NoQ : World → (Nat → Prop) → Prop := fun _ _ => True
theorem NoQ.stab : Stab NoQ := fun _ _ _ _ _ _ _ => trivial
/-- A slice that reads as texts, off the table. -/
def StrQ (v : Value) (l : List ByteArray) (Q : World → (Nat → Prop) → Prop) : World → (Nat → Prop) → Prop := fun w F =>
  (∃ A c, v = .slice A l.length c ∧ l.length ≤ 9223372036854775807 ∧ (0 < l.length → ∃ g, A = some ⟨g, 0, none⟩ ∧ g < w.heap.size ∧ ¬ F g ∧ ∀ (j : Nat) (s : ByteArray), l[j]? = some s → w.cell? ⟨g, j, none⟩ = some (.string s))) ∧ Q w F
theorem StrQ.stab {v : Value} {l : List ByteArray} {Q : World → (Nat → Prop) → Prop} (hQ : Stab Q) : Stab (StrQ v l Q) := by
  rintro wr w' F F' ⟨⟨A, c, h1, h2, h3⟩, hq⟩ hf hF
  refine ⟨⟨A, c, h1, h2, fun hl => ?_⟩, hQ wr w' F F' hq hf hF⟩
  obtain ⟨g, h4, h5, h6, h7⟩ := h3 hl
  refine ⟨g, h4, Nat.lt_of_lt_of_le h5 hf.size, fun hh => ?_, fun j s hj => ?_⟩
  · rcases hF g hh with h | h
    · exact h6 h
    · omega
  · rw [← h7 j s hj]
    unfold World.cell?
    rw [show w'.heap[(⟨g, j, none⟩ : Addr).block]? = wr.heap[(⟨g, j, none⟩ : Addr).block]? from hf.block g h5 h6]
theorem StrQ.str {w : World} {F : Nat → Prop} {v : Value} {l : List ByteArray} {Q : World → (Nat → Prop) → Prop} (h : StrQ v l Q w F) : StrAt w v l := by
  obtain ⟨⟨A, c, h1, h2, h3⟩, _⟩ := h
  refine ⟨A, c, h1, h2, fun hl => ?_⟩
  obtain ⟨g, h4, h5, _, h6⟩ := h3 hl
  exact ⟨g, h4, h5, h6⟩
/-- Another table, off the first. -/
def TabQ (lo b room : Nat) (L : List (ByteArray × Int)) (Q : World → (Nat → Prop) → Prop) : World → (Nat → Prop) → Prop := fun w F =>
  ∃ G, TabAt w lo b room L G ∧ (∀ k, G k → lo ≤ k ∧ k < w.heap.size ∧ ¬ F k) ∧ Good room L ∧ Q w (fun k => F k ∨ G k)
theorem TabQ.stab {lo b room : Nat} {L : List (ByteArray × Int)} {Q : World → (Nat → Prop) → Prop} (hQ : Stab Q) : Stab (TabQ lo b room L Q) := by
  rintro wr w' F F' ⟨G, h1, h2, hg, h3⟩ hf hF
  refine ⟨G, h1.fr hf (fun k hk => (h2 k hk).2.2), fun k hk => ?_, hg, hQ wr w' _ _ h3 (hf.mono fun i _ hi => .inl hi) fun k hk => ?_⟩
  · obtain ⟨a, b, c⟩ := h2 k hk
    refine ⟨a, Nat.lt_of_lt_of_le b hf.size, fun hh => ?_⟩
    rcases hF k hh with h | h
    · exact c h
    · omega
  · rcases hk with hk | hk
    · rcases hF k hk with h | h
      · exact .inl (.inl h)
      · exact .inr h
    · exact .inl (.inr hk)

section
variable {w wr : World} {b room : Nat} {L : List (ByteArray × Int)} {Q : World → (Nat → Prop) → Prop}
theorem Hld.new {w1 : World} {F : Nat → Prop} (hT : TabAt w1 w.heap.size b room [] F) (hF : ∀ k, F k → w.heap.size ≤ k) (hB : Below w.heap.size w w1) : Hld w w1 b room [] NoQ := by
  refine ⟨⟨_, hT.own, fun k hk => ⟨hk.2.1, hk.2.2⟩, trivial⟩, hB, NoQ.stab, Good.nil _⟩
theorem Hld.below {w' : World} (H : Hld w wr b room L Q) (hb : Below wr.heap.size wr w') : Hld w w' b room L Q := by
  obtain ⟨⟨F, hT, hF, hq⟩, hB, hs, hg⟩ := H
  exact ⟨⟨F, hT.below hb, fun k hk => ⟨(hF k hk).1, Nat.lt_of_lt_of_le (hF k hk).2 hb.size⟩, hs _ _ _ _ hq ((Fr.refl F wr).below hb) fun k hk => .inl hk⟩, hB.trans (hb.mono hB.size), hs, hg⟩
theorem Hld.drewN (H : Hld w wr b room L Q) (m : Nat) : Hld w (wr.drewN m) b room L Q := H.below (belowN (Below.refl _ _) m)
theorem Hld.post {w' : World} {L' : List (ByteArray × Int)} {F : Nat → Prop} {v : Value} {e : Ending} (hF : ∀ k, F k → w.heap.size ≤ k ∧ k < wr.heap.size) (hq : Q wr F) (hB : Below w.heap.size w wr) (hs : Stab Q) (hg : Good room L') (h : TabPost wr w.heap.size b room F v L' e w') : e = .returned v ∧ Hld w w' b room L' Q := by
  obtain ⟨he, F', h1, h2, h3⟩ := h
  refine ⟨he, ⟨_, h1.own, fun k hk => ⟨hk.2.1, hk.2.2⟩, hs _ _ _ _ hq h3 fun k hk => h2 k hk.1⟩, hB.trans (h3.below_of hB.size fun k hk => (hF k hk).1), hs, hg⟩
theorem Hld.put (H : Hld w wr b room L Q) (key : ByteArray) (n : Int) (hks : key.size ≤ 140737488355328) :
    Calls Try.prog 15 #[.pointer (some ⟨b, 0, none⟩), .string key, .int .i64 n] wr fun e w' => e = .returned (.bool (putL room L key n).2) ∧ Hld w w' b room (putL room L key n).1 Q := by
  obtain ⟨⟨F, hT, hF, hq⟩, hB, hs, hg⟩ := H
  exact (tput_calls wr w.heap.size b room L F hB.size hT key n hks).mono fun e w' hx => Hld.post hF hq hB hs (hg.put key n hks) hx
theorem Hld.del (H : Hld w wr b room L Q) (key : ByteArray) (hks : key.size ≤ 140737488355328) :
    Calls Try.prog 16 #[.pointer (some ⟨b, 0, none⟩), .string key] wr fun e w' => e = .returned (.bool (look L key).isSome) ∧ Hld w w' b room (without L key) Q := by
  obtain ⟨⟨F, hT, hF, hq⟩, hB, hs, hg⟩ := H
  exact (del_calls wr w.heap.size b room L F hB.size hT hg.ks key hks).mono fun e w' hx => Hld.post hF hq hB hs (hg.without key) hx
theorem Hld.get (H : Hld w wr b room L Q) (key : ByteArray) (hks : key.size ≤ 140737488355328) :
    Calls Try.prog 18 #[.pointer (some ⟨b, 0, none⟩), .string key] wr fun e w' => e = .returned (peekV L key) ∧ Hld w w' b room (getL L key) Q := by
  obtain ⟨⟨F, hT, hF, hq⟩, hB, hs, hg⟩ := H
  exact (get_calls wr w.heap.size b room L F hT key hks).mono fun e w' hx => Hld.post hF hq hB hs (hg.get key hks) hx
theorem Hld.did (H : Hld w wr b room L Q) (d : Act3) (hks : d.key.size ≤ 140737488355328) :
    Calls Try.prog 12 #[.pointer (some ⟨b, 0, none⟩), .agg #[.int .i64 d.kind, .string d.key, .int .i64 d.n]] wr fun e w' => e = .returned (doV room L d) ∧ Hld w w' b room (doL room L d).1 Q := by
  obtain ⟨⟨F, hT, hF, hq⟩, hB, hs, hg⟩ := H
  exact (did_calls wr w.heap.size b room L F hB.size hT hg.ks d hks).mono fun e w' hx => Hld.post hF hq hB hs (hg.do' d hks) hx
theorem Hld.peek (H : Hld w wr b room L Q) (key : ByteArray) (hks : key.size ≤ 140737488355328) :
    Calls Try.prog 13 #[.pointer (some ⟨b, 0, none⟩), .string key] wr fun e w' => e = .returned (peekV L key) ∧ Hld w w' b room L Q := by
  obtain ⟨F, hT, _⟩ := H.tab
  refine (peek_calls wr w.heap.size b room L F hT key hks).mono ?_
  rintro e w' ⟨h1, m, rfl⟩
  exact ⟨h1, H.drewN m⟩
theorem Hld.next (H : Hld w wr b room L Q) (key : ByteArray) (hks : key.size ≤ 140737488355328) :
    Calls Try.prog 21 #[.pointer (some ⟨b, 0, none⟩), .string key] wr fun e w' => e = .returned (nextV (nextL L key)) ∧ Hld w w' b room L Q := by
  obtain ⟨F, hT, _⟩ := H.tab
  refine (next_calls wr w.heap.size b room L F hT key hks).mono ?_
  rintro e w' ⟨h1, m, rfl⟩
  exact ⟨h1, H.drewN m⟩
theorem Hld.oldest (H : Hld w wr b room L Q) :
    Calls Try.prog 22 #[.pointer (some ⟨b, 0, none⟩)] wr fun e w' => e = .returned (oldV L) ∧ Hld w w' b room L Q := by
  obtain ⟨F, hT, _⟩ := H.tab
  exact (oldest_calls wr w.heap.size b room L F hT).mono fun e w' h => ⟨h.1, H.below h.2⟩
theorem Hld.len (H : Hld w wr b room L Q) :
    Calls Try.prog 20 #[.pointer (some ⟨b, 0, none⟩)] wr fun e w' => e = .returned (.int .i64 (L.length : Int)) ∧ Hld w w' b room L Q := by
  obtain ⟨F, hT, _⟩ := H.tab
  refine (len_calls wr w.heap.size b room L F hT).mono ?_
  rintro e w' ⟨h1, m, rfl⟩
  exact ⟨h1, H.drewN m⟩
theorem Hld.addStr {w' : World} (H : Hld w wr b room L Q) (hb : Below wr.heap.size wr w') {v : Value} {n : Nat} {l : List ByteArray} (h : w'.ownsRow wr.heap.size 9 1 v n (l.map Value.string)) : Hld w w' b room L (StrQ v l Q) := by
  obtain ⟨⟨F, hT, hF, hq⟩, hB, hs, hg⟩ := H
  refine ⟨⟨F, hT.below hb, fun k hk => ⟨(hF k hk).1, Nat.lt_of_lt_of_le (hF k hk).2 hb.size⟩, ?_, hs _ _ _ _ hq ((Fr.refl F wr).below hb) fun k hk => .inl hk⟩, hB.trans (hb.mono hB.size), StrQ.stab hs, hg⟩
  obtain ⟨A, c, h1, h2, h3⟩ := StrAt.own h
  refine ⟨A, c, h1, h2, fun hl => ?_⟩
  obtain ⟨g, h4, h5, h6⟩ := h3 hl
  refine ⟨g, h4, h5, fun hh => ?_, h6⟩
  have h7 := (hF g hh).2
  rcases h.2 with ⟨h8, _⟩ | ⟨g', cap, cur, h8, h9, _⟩
  · rw [h8, h4] at h1
    injection h1 with h1
    simp at h1
  · rw [h8, h4] at h1
    injection h1 with h1
    injection h1 with h1
    injection h1 with h1
    omega
theorem Hld.addTab {room' : Nat} (H : Hld w wr b room L Q) (n : Int) (hn : (room' : Int) = max 0 (min n 10000)) (hQ : Stab Q) :
    Calls Try.prog 11 #[.int .i64 n] wr fun e w' => ∃ b', e = .returned (.pointer (some ⟨b', 0, none⟩)) ∧ Hld w w' b' room' [] (TabQ w.heap.size b room L Q) := by
  refine (new_calls wr w.heap.size H.bel.size n room' hn).mono ?_
  rintro e w' ⟨b', G, rfl, hT', hG, hb⟩
  refine ⟨b', rfl, ?_⟩
  obtain ⟨⟨F, hT, hF, hq⟩, hB, hs, hg⟩ := H
  refine ⟨⟨_, hT'.own, fun k hk => ⟨hk.2.1, hk.2.2⟩, F, hT.below hb, fun k hk => ⟨(hF k hk).1, Nat.lt_of_lt_of_le (hF k hk).2 hb.size, fun hh => ?_⟩, hg, ?_⟩, hB.trans (hb.mono hB.size), TabQ.stab hs, Good.nil _⟩
  · have := hG k hh.1
    have := (hF k hk).2
    omega
  · refine hs wr w' F _ hq ((Fr.refl F wr).below hb) fun k hk => ?_
    rcases hk with hk | hk
    · exact .inr (hG k hk.1)
    · exact .inl hk
theorem Hld.keys (H : Hld w wr b room L Q) :
    Calls Try.prog 14 #[.pointer (some ⟨b, 0, none⟩)] wr fun e w' => ∃ v, e = .returned v ∧ Hld w w' b room L (StrQ v (L.map (·.1)) Q) := by
  obtain ⟨F, hT, _⟩ := H.tab
  refine (keys_calls wr w.heap.size b room L F hT).mono ?_
  rintro e w' ⟨v, h1, h2, h3⟩
  refine ⟨v, h1, H.addStr h3 (n := L.length) ?_⟩
  rw [List.map_map]
  exact h2
theorem Hld.str {v : Value} {l : List ByteArray} (H : Hld w wr b room L (StrQ v l Q)) : StrAt wr v l := by
  obtain ⟨F, _, _, h⟩ := H.tab
  exact h.str
theorem Hld.weak {v : Value} {l : List ByteArray} (H : Hld w wr b room L (StrQ v l Q)) (hQ : Stab Q) : Hld w wr b room L Q := by
  obtain ⟨⟨F, hT, hF, hq⟩, hB, hs, hg⟩ := H
  exact ⟨⟨F, hT, hF, hq.2⟩, hB, hQ, hg⟩
theorem Hld.swap {b2 room2 : Nat} {L2 : List (ByteArray × Int)} (hQ : Stab Q) (H : Hld w wr b room L (TabQ w.heap.size b2 room2 L2 Q)) : Hld w wr b2 room2 L2 (TabQ w.heap.size b room L Q) := by
  obtain ⟨⟨F, hT, hF, G, hG, hx, hg2, hq⟩, hB, hs, hg⟩ := H
  refine ⟨⟨G, hG, fun k hk => ⟨(hx k hk).1, (hx k hk).2.1⟩, F, hT, fun k hk => ⟨(hF k hk).1, (hF k hk).2, fun h => (hx k h).2.2 hk⟩, hg, ?_⟩, hB, TabQ.stab hQ, hg2⟩
  have : (fun k => G k ∨ F k) = fun k => F k ∨ G k := funext fun k => propext or_comm
  rw [this]
  exact hq
end
end Go.Proofs.Ytapclgjelekijaa
