import Derived.Test.YtapclgjelekijaaA2
import Derived.Deep.RegionHeld3
import Derived.IntWalk
import Derived.Deep.AppendLies
/-! The table's ring: put. -/
namespace Go.Proofs.Ytapclgjelekijaa
open Go.RowKit

theorem own_cap {w : World} {base : Nat} {e : TypeId} {size : Nat} {A : Option Addr} {n m c : Nat} {xs : List Value} (h : w.ownsRow base e size (.slice A m c) n xs) : m = n ∧ n ≤ c ∧ c ≤ 9223372036854775807 := by
  rcases h.2 with ⟨h, h0⟩ | ⟨g, cap, cur, h, _, _, h1, h2, _⟩
  · injection h with _ h1 h2
    subst h1 h2 h0
    omega
  · injection h with _ h3 h4
    subst h3 h4
    exact ⟨rfl, h1, by simpa [maxLen] using h2⟩


theorem own_pop {w : World} {base : Nat} {e : TypeId} {g n c : Nat} {l : List Nat} {k : Nat} (h : w.ownsRow base e 1 (.slice (some ⟨g, 0, none⟩) n c) (l ++ [k]).length (nats (l ++ [k]))) : w.ownsRow base e 1 (.slice (some ⟨g, 0, none⟩) l.length c) l.length (nats l) := by
  refine ⟨by simp [nats], ?_⟩
  rcases h.2 with ⟨h', _⟩ | ⟨g', cap, cur, h', hb, hg, h1, h2, h3, h4⟩
  · simp at h'
  · injection h' with ha _ hc
    simp only [Option.some.injEq, Addr.mk.injEq, and_true] at ha
    subst ha hc
    refine .inr ⟨g, c, cur, rfl, hb, hg, by simp at h1; omega, h2, h3, ?_⟩
    have h5 := congrArg (List.take l.length) h4
    rw [List.take_take] at h5
    simp only [List.length_append, List.length_singleton, Nat.mul_one] at h5 ⊢
    rw [Nat.min_eq_left (by omega)] at h5
    rw [h5]
    simp [nats]
theorem RingAt.setFree {w : World} {lo b : Nat} {R : Ring} {sv fv wv : Value} (H : RingAt w lo b R sv fv wv) {v : Value} {fr : List Nat} (hown : w.ownsRow lo 3 1 v fr.length (nats fr)) (hfy : ∀ k, v.ownBlock = some k → wv.ownBlock ≠ some k) :
    RingAt (w.setCell ⟨b, 2, none⟩ v) lo b { R with free := fr } sv v wv :=
  ⟨heap_set_same w b 2 H.blk _, H.lob, own_far H.s H.sb _, own_far hown (fun e => by
    obtain ⟨cur, h⟩ := own_obj hown e
    rw [H.blk] at h
    simp at h) _, own_far H.y H.yb _, hfy⟩
theorem RingAt.setSlots {w : World} {lo b : Nat} {R : Ring} {sv fv wv : Value} (H : RingAt w lo b R sv fv wv) {v : Value} {S : List Slot} (hown : w.ownsRow lo 68 4 v S.length (rowOf S)) :
    RingAt (w.setCell ⟨b, 1, none⟩ v) lo b { R with slots := S } v fv wv :=
  ⟨heap_set_same w b 1 H.blk _, H.lob, own_far hown (fun e => by
    obtain ⟨cur, h⟩ := own_obj hown e
    rw [H.blk] at h
    simp at h) _, own_far H.f H.fb _, own_far H.y H.yb _, H.fy⟩
theorem nats_set (l : List Nat) (i x : Nat) : (nats l).set i (.int .i64 (x : Int)) = nats (l.set i x) := by simp [nats, List.map_set]
theorem RingAt.setWay {w : World} {lo b : Nat} {R : Ring} {sv fv : Value} {g n c : Nat} (H : RingAt w lo b R sv fv (.slice (some ⟨g, 0, none⟩) n c)) (hn : 0 < R.ways.length) (p x : Nat) :
    RingAt (w.setCell ⟨g, p, none⟩ (.int .i64 (x : Int))) lo b { R with ways := R.ways.set p x } sv fv (.slice (some ⟨g, 0, none⟩) n c) := by
  have h0 := H.y
  obtain ⟨_, _, he, _⟩ := own_form h0 hn
  injection he with _ hn2 _
  subst hn2
  refine ⟨(Below.heap_setCell w ⟨g, p, none⟩ _ b (fun e => H.yb (by rw [e]; rfl))).trans H.blk, H.lob, own_far (p := ⟨g, p, none⟩) H.s (fun e => H.sy e rfl) _, own_far (p := ⟨g, p, none⟩) H.f (fun e => H.fy g e rfl) _, ?_, H.fy⟩
  have h1 := own_set h0 p (.int .i64 (x : Int))
  rw [nats_set] at h1
  show World.ownsRow _ lo 3 1 _ (R.ways.set p x).length _
  rw [List.length_set]
  exact h1

set_option maxHeartbeats 4000000 in
theorem put_free (w : World) (lo b : Nat) (R : Ring) (o : List Nat) (P : Rep R o) (fr : List Nat) (k : Nat) (hfree : R.free = fr ++ [k]) (g c gf cf gw cw : Nat)
   (H : RingAt w lo b R (.slice (some ⟨g, 0, none⟩) R.slots.length c) (.slice (some ⟨gf, 0, none⟩) (fr.length + 1) cf) (.slice (some ⟨gw, 0, none⟩) R.ways.length cw)) (key : ByteArray) (n : Int) (hks : key.size ≤ 140737488355328)
   (habs : ∀ a, a ∈ o → R.key a ≠ key) (hroom : o.length < R.room) :
    Calls Try.prog 30 #[.pointer (some ⟨b, 0, none⟩), .string key,  .int .i64 n] w (TabPost w lo b R.room (Foot b (.slice (some ⟨g, 0, none⟩) R.slots.length c) (.slice (some ⟨gf, 0, none⟩) (fr.length + 1) cf) (.slice (some ⟨gw, 0, none⟩) R.ways.length cw)) (.bool true) (Lst R o ++ [(key, n)])) := by
  have h0 : w.cell? ⟨b, 0, none⟩ = some (.int .i64 (R.room : Int)) := H.cell 0
  have h1 : w.cell? ⟨b, 1, none⟩ = some (.slice (some ⟨g, 0, none⟩) R.slots.length c) := H.cell 1
  have h2 : w.cell? ⟨b, 2, none⟩ = some (.slice (some ⟨gf, 0, none⟩) (fr.length + 1) cf) := H.cell 2
  have h3 : w.cell? ⟨b, 3, none⟩ = some (.slice (some ⟨gw, 0, none⟩) R.ways.length cw) := H.cell 3
  have hb : b < w.heap.size := (H.foot_lt b (.inl rfl)).2
  have fb := H.frozen
  have hsl := P.slots_le
  have hfl : fr.length + 1 ≤ R.slots.length := by have := P.cnt; rw [hfree] at this; simp at this; omega
  have hcr : (decide ((R.room : Int) ≤ (R.slots.length : Int) - (R.free.length : Int))) = false := by
    rw [decide_eq_false_iff_not]; have := P.cnt; omega
  have hkl : k < R.slots.length := P.flt k (by rw [hfree]; simp)
  have HFR := Asd.mk hfree
  have HFL := Asd.mk (show R.free.length ≤ 100000 by have := P.cnt; omega)
  clear hfree
  have HF : Asd (Fr (Foot b (.slice (some ⟨g, 0, none⟩) R.slots.length c) (.slice (some ⟨gf, 0, none⟩) (fr.length + 1) cf) (.slice (some ⟨gw, 0, none⟩) R.ways.length cw)) w w) := ⟨Fr.refl _ _⟩
  have hfl2 : ∀ x, R.free.length = x → fr.length + 1 = x := fun x hx => by rw [← hx, HFR.out]; simp
  have HFL2 := Asd.mk hfl2
  clear hfl2 h0 h1 h2 h3 fb
  go_enter Try.func30, Try.ntmps30
  go_wp2_with fail
  refine (find_absent H P habs hks).mono ?_
  rintro e w' ⟨rfl, m0, rfl⟩
  have H1 := H.drewN m0
  have F1 := Asd.mk (HF.out.drewN m0)
  generalize w.drewN m0 = w1 at H1 F1 ⊢
  clear HF
  have h0 : w1.cell? ⟨b, 0, none⟩ = some (.int .i64 (R.room : Int)) := H1.cell 0
  have h1 : w1.cell? ⟨b, 1, none⟩ = some (.slice (some ⟨g, 0, none⟩) R.slots.length c) := H1.cell 1
  have h2 : w1.cell? ⟨b, 2, none⟩ = some (.slice (some ⟨gf, 0, none⟩) (fr.length + 1) cf) := H1.cell 2
  have h3 : w1.cell? ⟨b, 3, none⟩ = some (.slice (some ⟨gw, 0, none⟩) R.ways.length cw) := H1.cell 3
  have hb1 : b < w1.heap.size := (H1.foot_lt b (.inl rfl)).2
  have fb := H1.frozen
  have hgf : ∀ i, w1.frozen? ⟨gf, i, none⟩ = false := own_frozen H1.f rfl
  have hlast : w1.cell? ⟨gf, fr.length, none⟩ = some (.int .i64 (k : Int)) := by
    have h := H1.f
    rw [← HFL2.out _ rfl] at h
    rw [h.cellAt fr.length (by omega), nats_get, HFR.out]
    simp
  have hcf : fr.length + 1 ≤ cf := by
    have h := own_cap H1.f
    omega
  go_wp2_with fail
  go_quiet ((go_at_call 33; exact Calls.quiet_of (count_calls _ lo b R _ _ _ (H1.drewN _) hsl HFL.out)))
  go_wp2_with fail
  go_region
  go_wp2_with fail
  have H2 : RingAt ((w1.drewN (nq + 1)).setCell ⟨b, 2, none⟩ (.slice (some ⟨gf, 0, none⟩) fr.length cf)) lo b { R with free := fr } (.slice (some ⟨g, 0, none⟩) R.slots.length c) (.slice (some ⟨gf, 0, none⟩) fr.length cf) (.slice (some ⟨gw, 0, none⟩) R.ways.length cw) :=
    (H1.drewN (nq + 1)).setFree (by
      have h := (H1.drewN (nq + 1)).f
      rw [HFR.out] at h
      exact own_pop h) (fun j hj => H1.fy j hj)
  have F2 := Asd.mk ((F1.out.drewN (nq + 1)).setCell (p := ⟨b, 2, none⟩) (.inl (.inl rfl)) (.slice (some ⟨gf, 0, none⟩) fr.length cf))
  generalize (w1.drewN (nq + 1)).setCell ⟨b, 2, none⟩ (.slice (some ⟨gf, 0, none⟩) fr.length cf) = w2 at H2 F2 ⊢
  clear H1 h0 h1 h2 h3 fb hgf hlast F1
  obtain ⟨d, hd, hz0, hbf, hpr⟩ := P.absent habs
  have hz : (hsum key + d) % R.ways.length < R.ways.length := Nat.mod_lt _ (by omega)
  generalize hzz : (hsum key + d) % R.ways.length = z at hz0 hz hpr
  have HPR : Asd (probe R.ways R.key key R.ways.length (hsum key % R.ways.length) = some z) := ⟨hpr⟩
  have HZZ := Asd.mk hzz
  have HZ0 := Asd.mk hz0
  clear hpr hzz hz0
  have HWL : Asd (∀ p k : Nat, R.ways[p]? = some (k + 1) → k < R.slots.length) := ⟨P.ways_lt⟩
  obtain ⟨R1, hR1⟩ : ∃ R1 : Ring, R1 = { R with free := fr } := ⟨_, rfl⟩
  rw [← hR1] at H2
  have e1 : Asd (R1.ways = R.ways) := ⟨by rw [hR1]⟩
  have e2 : Asd (R1.key = R.key) := ⟨by rw [hR1]; rfl⟩
  have e3 : Asd (R1.slots.length = R.slots.length) := ⟨by rw [hR1]⟩
  have HR1 := Asd.mk hR1
  clear hR1
  have hat : ∀ W, RingAt W lo b R1 (.slice (some ⟨g, 0, none⟩) R.slots.length c) (.slice (some ⟨gf, 0, none⟩) fr.length cf) (.slice (some ⟨gw, 0, none⟩) R.ways.length cw) → Calls Try.prog 37 #[.pointer (some ⟨b, 0, none⟩), .string key] W fun e w' => e = .returned (.int .i64 (z : Int)) ∧ ∃ m, w' = W.drewN m := fun W HW =>
    at_calls W lo b R1 _ _ _ HW (by rw [e1.out, e3.out]; exact HWL.out) (by rw [e3.out]; exact hsl) (by rw [e1.out]; exact P.ways_le.1) (by rw [e1.out]; exact P.ways_le.2) key hks R.ways.length z (by rw [e1.out, e2.out]; exact HPR.out)
  have HAT := Asd.mk hat
  clear hat
  have hwl := P.ways_le
  have cz : w2.cell? ⟨gw, z, none⟩ = some (.int .i64 0) := H2.way (by rw [e1.out]; exact HZ0.out)
  have c3 : w2.cell? ⟨b, 3, none⟩ = some (.slice (some ⟨gw, 0, none⟩) R.ways.length cw) := H2.cell 3
  have fw : ∀ i, w2.frozen? ⟨gw, i, none⟩ = false := own_frozen H2.y rfl
  have hgwb : gw ≠ b := fun e => H2.yb (by rw [e]; rfl)
  have hk1 : IntKind.i64.wrap ((k : Int) + 1) = (k : Int) + 1 := IntWalk.i64_in _ (by omega)
  go_region_held3 (fun w' => w'.cell? ⟨b, 3, none⟩ = some (.slice (some ⟨gw, 0, none⟩) R.ways.length cw))
    (first | exact c3 | exact (World.cell?_setCell_other _ _ _ _ (fun e => hgwb (congrArg Addr.block e))).trans c3 | fail)
    (first | (go_at_call 37; refine (HAT.out _ H2.drew).mono ?_; rintro e w' ⟨rfl, m, rfl⟩))
  clear hk1
  have H3 : RingAt ((w2.drewN (1 + m)).setCell ⟨gw, z, none⟩ (.int .i64 ((k : Int) + 1))) lo b { R1 with ways := R.ways.set z (k + 1) } (.slice (some ⟨g, 0, none⟩) R.slots.length c) (.slice (some ⟨gf, 0, none⟩) fr.length cf) (.slice (some ⟨gw, 0, none⟩) R.ways.length cw) := by
    have h := (H2.drewN (1 + m)).setWay (by rw [e1.out]; exact hwl.2) z (k + 1)
    rw [e1.out] at h
    exact h
  have F3 := Asd.mk ((F2.out.drewN (1 + m)).setCell (p := ⟨gw, z, none⟩) (.inl (.inr (.inr (.inr rfl)))) (.int .i64 ((k : Int) + 1)))
  clear H2 F2 cz c3 fw
  generalize (w2.drewN (1 + m)).setCell ⟨gw, z, none⟩ (.int .i64 ((k : Int) + 1)) = w3 at *
  have h1 : w3.cell? ⟨b, 1, none⟩ = some (.slice (some ⟨g, 0, none⟩) R.slots.length c) := H3.cell 1
  obtain ⟨s0, hs0⟩ : ∃ s, R1.slots[k]? = some s := ⟨_, List.getElem?_eq_getElem (by rw [e3.out]; exact hkl)⟩
  obtain ⟨d0, d1, d2, d3⟩ := H3.slot hs0
  have HS0 := Asd.mk hs0
  clear hs0
  have fg : ∀ i, w3.frozen? ⟨g, i, none⟩ = false := own_frozen H3.s rfl
  go_wp2_with fail
  have H4 := H3.setSlot (k := k) (by show k < R1.slots.length; rw [e3.out]; exact hkl) ⟨key, n, some 0, some 0⟩
  have F4 := Asd.mk ((((F3.out.setCell (p := ⟨g, k * 4, none⟩) (.inl (.inr (.inl rfl))) (.string key)).setCell (p := ⟨g, k * 4 + 1, none⟩) (.inl (.inr (.inl rfl))) (.int .i64 n)).setCell (p := ⟨g, k * 4 + 2, none⟩) (.inl (.inr (.inl rfl))) (.int .i64 0)).setCell (p := ⟨g, k * 4 + 3, none⟩) (.inl (.inr (.inl rfl))) (.int .i64 0))
  have PU := P.put (key := key) (n := n) habs (S := R1.slots) (fr := fr) (k := k) (by rw [e3.out]; exact P.cap) (fun a _ => by rw [HR1.out]) (by rw [e3.out]; omega) (by
      have := P.fnd; rw [HFR.out, List.nodup_append] at this; exact this.1) (fun a ha => ⟨by rw [HFR.out]; simp [ha], fun e => by
      have := P.fnd; rw [HFR.out, List.nodup_append] at this; exact this.2.2 a ha k (by simp) e⟩) (fun h => P.dis k h (by rw [HFR.out]; simp)) (by rw [e3.out]; exact hkl) (by rw [e3.out, P.cnt, HFR.out]; simp; omega) hd (by rw [HZZ.out]; exact HZ0.out) hbf
  rw [HZZ.out] at PU
  obtain ⟨p1, p2, p3, p4, p5⟩ := PU
  have LK : Lnk (R1.slots.set k ⟨key, n, some 0, some 0⟩) R1.first R1.last o := by
    have := P.lnk.setNew (T := R1.slots) (k := k) ⟨key, n, some 0, some 0⟩ (fun a _ => by rw [HR1.out]) (by rw [e3.out]; exact Nat.le_refl _) (fun h => P.dis k h (by rw [HFR.out]; simp))
    have ef : R1.first = R.first := by rw [HR1.out]
    have el : R1.last = R.last := by rw [HR1.out]
    rw [ef, el]
    exact this
  refine (lay_calls _ lo b _ _ _ _ H4 LK (by show (R1.slots.set k _).length ≤ _; rw [List.length_set, e3.out]; exact hsl) k (by show k < (R1.slots.set k _).length; rw [List.length_set, e3.out]; exact hkl) (fun h => P.dis k h (by rw [HFR.out]; simp))).mono ?_
  rintro e w5 ⟨rfl, H5, F5⟩
  have F6 := F4.out.trans F5 (fun i hi => by
    rcases hi with hi | hi | hi | hi
    · exact .inl (.inl hi)
    · exact .inl (.inr (.inl hi))
    · exact .inl (.inr (.inr (.inl hi)))
    · exact .inl (.inr (.inr (.inr hi))))
  have HL : Lst R o ++ [(key, n)] = Lst (({ R with slots := R1.slots.set k ⟨key, n, some 0, some 0⟩, free := fr, ways := R.ways.set z (k + 1) } : Ring).lay k) (o ++ [k]) := by
    unfold Lst
    rw [List.map_append, List.map_cons, List.map_nil, p4, p5]
    congr 1
    exact List.map_congr_left fun a ha => by rw [p2 a ha, p3 a ha]
  have H5' : RingAt w5 lo b (({ R with slots := R1.slots.set k ⟨key, n, some 0, some 0⟩, free := fr, ways := R.ways.set z (k + 1) } : Ring).lay k) (.slice (some ⟨g, 0, none⟩) R.slots.length c) (.slice (some ⟨gf, 0, none⟩) fr.length cf) (.slice (some ⟨gw, 0, none⟩) R.ways.length cw) := by
    have h := H5
    rw [HR1.out] at h
    rw [HR1.out]
    exact h
  clear H5 F5 F4 H4 H3 h1 d0 d1 d2 d3 fg p2 p3 p4 p5
  go_wp2_with fail
  go_ret
  exact ⟨rfl, _, ⟨_, _, _, _, _, H5', p1, rfl, HL.symm, fun _ h => h⟩, fun i hi => by
    rcases hi with hi | hi | hi | hi
    · exact .inl (.inl hi)
    · exact .inl (.inr (.inl hi))
    · exact .inl (.inr (.inr (.inl hi)))
    · exact .inl (.inr (.inr (.inr hi))), F6⟩
end Go.Proofs.Ytapclgjelekijaa
