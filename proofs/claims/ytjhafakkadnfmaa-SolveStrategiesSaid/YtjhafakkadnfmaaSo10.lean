/- A round of the recursive algorithm, in plain lists. -/
import Derived.Test.YtjhafakkadnfmaaSo9
namespace Go.Proofs.Ytjhafakkadnfmaa

/-- What the rounds keep: R is what is left of al0, gone what is not; who solves R solves all. -/
structure PInv (g : Gm) (n : Nat) (al0 : List Bool) (wn0 : List Int) (al : List Bool) (R gone wn : List Int) : Prop where
  la : al.length = n
  mem : Mem n al R
  tot : TotB g n al
  gr : ∀ x ∈ gone, ∃ v : Nat, x = v ∧ v < n ∧ al0.getD v false = true
  gn : gone.Nodup
  st : ∀ i, setOf al i ↔ setOf al0 i ∧ ¬ memOf gone i
  wl : wn.length = n
  out : ∀ v, v < n → al0.getD v false = false → wn.getD v 0 = wn0.getD v 0
  ext : ∀ wn' : Nat → Int, Sol g (setOf al) wn' → (∀ i, memOf gone i → wn' i = wn.getD i 0) → Sol g (setOf al0) wn'

section
variable {g : Gm} {n : Nat} {bf : List (List Int)} {al0 al : List Bool} {wn0 wn R gone wn2 : List Int} {st1 st2 : Wk}

theorem PInv.start {al0 : List Bool} {wn0 r : List Int} (hl : al0.length = n) (hm : Mem n al0 r) (ht : TotB g n al0) (hw : wn0.length = n) : PInv g n al0 wn0 al0 r [] wn0 :=
  ⟨hl, hm, ht, (fun x hx => absurd hx (by simp)), List.nodup_nil, fun i => by simp [memOf], hw, fun _ _ _ => rfl, fun wn' h _ => h⟩

theorem lost_of {P : Int} {inner wn3 : List Int} {i : Nat} (hi : (i : Int) ∈ inner.filter (fun x => wn3.getD x.toNat 0 != P)) : (i : Int) ∈ inner ∧ wn3.getD i 0 ≠ P := by
  obtain ⟨h1, h2⟩ := List.mem_filter.1 hi
  exact ⟨h1, by simpa using h2⟩

/-- What is known behind the inner solution. -/
theorem PInv.inner (h : PInv g n al0 wn0 al R gone wn) (h1 : WInv g (leastP g R) n al (bestL g R) st1.q.length [] st1) (hs : Sol g (setOf st1.al) (fun i => wn2.getD i 0)) (hw2 : wn2.length = n) :
    (∀ i, memOf st1.q i → (liftI wn2 st1.q (leastP g R)).getD i 0 = leastP g R) ∧ (∀ i, i < n → ¬ memOf st1.q i → (liftI wn2 st1.q (leastP g R)).getD i 0 = wn2.getD i 0) ∧ Sol g (fun i => setOf al i ∧ ¬ memOf st1.q i) (fun i => (liftI wn2 st1.q (leastP g R)).getD i 0) := by
  have hq : ∀ x ∈ st1.q, ∃ v : Nat, x = v ∧ v < wn2.length := fun x hx => by
    obtain ⟨v, e, h1, -⟩ := h1.qr x hx
    exact ⟨v, e, by omega⟩
  have k1 : ∀ i, memOf st1.q i → (liftI wn2 st1.q (leastP g R)).getD i 0 = leastP g R := fun i hi => by
    obtain ⟨v, e, hv⟩ := hq _ hi
    rw [liftI_get _ _ _ hq i (by omega)]; exact if_pos hi
  have k2 : ∀ i, i < n → ¬ memOf st1.q i → (liftI wn2 st1.q (leastP g R)).getD i 0 = wn2.getD i 0 := fun i hi hn => by
    rw [liftI_get _ _ _ hq i (by omega)]; exact if_neg hn
  refine ⟨k1, k2, ?_⟩
  have hset := h1.set h.la
  refine (hs.congrS hset).congr fun i hi => ?_
  have : i < n := by have := set_lt hi.1; rw [h.la] at this; exact this
  exact (k2 i this hi.2).symm

theorem PInv.low (h : PInv g n al0 wn0 al R gone wn) : ∀ t, memOf (bestL g R) t → ∀ v, setOf al v → Lost (leastP g R) (pri g v) → pri g t < pri g v := fun t ht v hv hl => by
  have hv' : (v : Int) ∈ R := h.mem.all v (by have := set_lt hv; rw [h.la] at this; exact this) hv
  exact best_low ht hv' hl
theorem PInv.owners (h : PInv g n al0 wn0 al R gone wn) (hG : GOK g n bf) : ∀ i, setOf al i → own g i = 0 ∨ own g i = 1 := fun i hi => hG.ow i (by have := set_lt hi; rw [h.la] at this; exact this)

/-- No position is lost: the player wins everywhere. -/
theorem PInv.won (h : PInv g n al0 wn0 al R gone wn) (hG : GOK g n bf) (h1 : WInv g (leastP g R) n al (bestL g R) st1.q.length [] st1) (hs : Sol g (setOf st1.al) (fun i => wn2.getD i 0)) (hw2 : wn2.length = n) (hout : ∀ v, v < n → st1.al.getD v false = false → wn2.getD v 0 = wn.getD v 0)
    (hno : (R.filter (inS st1.al)).filter (fun x => (liftI wn2 st1.q (leastP g R)).getD x.toNat 0 != leastP g R) = []) :
    Sol g (setOf al0) (fun i => (liftI wn2 st1.q (leastP g R)).getD i 0) ∧ ∀ v, v < n → al0.getD v false = false → (liftI wn2 st1.q (leastP g R)).getD v 0 = wn0.getD v 0 := by
  obtain ⟨k1, k2, k3⟩ := h.inner h1 hs hw2
  have hA := h1.attIn hG h.la
  have hset := h1.set h.la
  have hM := h.mem.filter (al1 := st1.al) (fun i hi => ((hset i).1 hi).1)
  have hall : ∀ i, setOf al i → ¬ memOf st1.q i → (liftI wn2 st1.q (leastP g R)).getD i 0 = leastP g R := fun i hi hq => by
    have hin : i < n := by have := set_lt hi; rw [h.la] at this; exact this
    have hm := hM.all i hin ((hset i).2 ⟨hi, hq⟩)
    by_cases he : (liftI wn2 st1.q (leastP g R)).getD i 0 = leastP g R
    · exact he
    · have : (i : Int) ∈ (R.filter (inS st1.al)).filter (fun x => (liftI wn2 st1.q (leastP g R)).getD x.toNat 0 != leastP g R) := List.mem_filter.2 ⟨hm, by simpa using he⟩
      rw [hno] at this; cases this
  have hD := dom_all hA (leastP_two R) h.low (h.tot.total hG h.la) k3 hall
  have hnq : ∀ i, ¬ setOf al i → ¬ memOf st1.q i := fun i hn hq => hn (hA.sub i hq)
  refine ⟨h.ext _ (Sol.all hD (leastP_two R) fun i hi => ?_) fun i hi => ?_, fun v hv hv0 => ?_⟩
  · by_cases hq : memOf st1.q i
    · exact k1 i hq
    · exact hall i hi hq
  · obtain ⟨v, e, hv, -⟩ := h.gr _ hi
    obtain rfl : i = v := by omega
    have hna : ¬ setOf al i := fun hs => ((h.st i).1 hs).2 hi
    rw [k2 i hv (hnq i hna)]
    refine hout i hv ?_
    cases hb : st1.al.getD i false
    · rfl
    · exact absurd ((hset i).1 hb).1 hna
  · have hna : ¬ setOf al v := fun hs => by have := ((h.st v).1 hs).1; unfold setOf at this; rw [hv0] at this; cases this
    rw [k2 v hv (hnq v hna), ← h.out v hv hv0]
    refine hout v hv ?_
    cases hb : st1.al.getD v false
    · rfl
    · exact absurd ((hset v).1 hb).1 hna

/-- Some positions are lost: they, and what the other player attracts to them, are gone. -/
theorem PInv.next (h : PInv g n al0 wn0 al R gone wn) (hG : GOK g n bf) (h1 : WInv g (leastP g R) n al (bestL g R) st1.q.length [] st1) (hs : Sol g (setOf st1.al) (fun i => wn2.getD i 0)) (hw2 : wn2.length = n) (hout : ∀ v, v < n → st1.al.getD v false = false → wn2.getD v 0 = wn.getD v 0)
    (lost : List Int) (hlost : lost = (R.filter (inS st1.al)).filter (fun x => (liftI wn2 st1.q (leastP g R)).getD x.toNat 0 != leastP g R)) (hne : lost ≠ []) (h2 : WInv g (1 - leastP g R) n al lost st2.q.length [] st2) :
    PInv g n al0 wn0 st2.al (R.filter (inS st2.al)) (gone ++ st2.q) (liftI (liftI wn2 st1.q (leastP g R)) st2.q (1 - leastP g R)) ∧ (R.filter (inS st2.al)).length < R.length := by
  obtain ⟨k1, k2, k3⟩ := h.inner h1 hs hw2
  have hP := leastP_two (g := g) R
  have hP1 : 1 - leastP g R = 0 ∨ 1 - leastP g R = 1 := by omega
  have hA := h1.attIn hG h.la
  have hA2 := h2.attIn hG h.la
  have hset := h1.set h.la
  have hset2 := h2.set h.la
  have hM := h.mem.filter (al1 := st1.al) (fun i hi => ((hset i).1 hi).1)
  have hL : ∀ i, memOf lost i ↔ (setOf al i ∧ ¬ memOf st1.q i) ∧ (liftI wn2 st1.q (leastP g R)).getD i 0 = 1 - leastP g R := fun i => by
    constructor
    · intro hi
      unfold memOf at hi
      rw [hlost] at hi
      obtain ⟨m1, m2⟩ := lost_of hi
      obtain ⟨v, e, hv, ha⟩ := hM.rg _ m1
      obtain rfl : i = v := by omega
      have h3 := (hset i).1 ha
      have := k3.two i h3
      exact ⟨h3, by omega⟩
    · rintro ⟨h3, h4⟩
      unfold memOf
      rw [hlost]
      have hin : i < n := by have := set_lt h3.1; rw [h.la] at this; exact this
      exact List.mem_filter.2 ⟨hM.all i hin ((hset i).2 h3), by simp only [Int.toNat_natCast, h4]; simp; omega⟩
  have hD := dom_lost hA hP1 (by omega) hP k3 hL hA2 (h.owners hG)
  have hq2 : ∀ x ∈ st2.q, ∃ v : Nat, x = v ∧ v < (liftI wn2 st1.q (leastP g R)).length := fun x hx => by
    obtain ⟨v, e, h1, -⟩ := h2.qr x hx
    exact ⟨v, e, by rw [liftI_len]; omega⟩
  have k4 : ∀ i, memOf st2.q i → (liftI (liftI wn2 st1.q (leastP g R)) st2.q (1 - leastP g R)).getD i 0 = 1 - leastP g R := fun i hi => by
    obtain ⟨v, e, hv⟩ := hq2 _ hi
    rw [liftI_get _ _ _ hq2 i (by omega)]; exact if_pos hi
  have k5 : ∀ i, i < n → ¬ memOf st2.q i → (liftI (liftI wn2 st1.q (leastP g R)) st2.q (1 - leastP g R)).getD i 0 = (liftI wn2 st1.q (leastP g R)).getD i 0 := fun i hi hn => by
    rw [liftI_get _ _ _ hq2 i (by rw [liftI_len]; omega)]; exact if_neg hn
  have hold : ∀ i, i < n → ¬ setOf al i → (liftI (liftI wn2 st1.q (leastP g R)) st2.q (1 - leastP g R)).getD i 0 = wn.getD i 0 := fun i hi hna => by
    rw [k5 i hi (fun hq => hna (hA2.sub i hq)), k2 i hi (fun hq => hna (hA.sub i hq))]
    refine hout i hi ?_
    cases hb : st1.al.getD i false
    · rfl
    · exact absurd ((hset i).1 hb).1 hna
  refine ⟨⟨h2.la, h.mem.filter fun i hi => ((hset2 i).1 hi).1, ?_, fun x hx => ?_, ?_, fun i => ?_, by rw [liftI_len, liftI_len]; exact hw2, fun v hv hv0 => ?_, fun wn' hs' hag => ?_⟩, ?_⟩
  · have : Total g (setOf st2.al) := by
      have e : setOf st2.al = fun i => setOf al i ∧ ¬ memOf st2.q i := funext fun i => propext (hset2 i)
      rw [e]; exact hA2.total (h.tot.total hG h.la)
    exact this.totB
  · rcases List.mem_append.1 hx with hx | hx
    · exact h.gr x hx
    · obtain ⟨v, e, hv, ha⟩ := h2.qr x hx
      exact ⟨v, e, hv, ((h.st v).1 ha).1⟩
  · rw [List.nodup_append]
    refine ⟨h.gn, h2.nd, fun x hx y hy e => ?_⟩
    subst e
    obtain ⟨v, rfl, hv, ha⟩ := h2.qr x hy
    exact ((h.st v).1 ha).2 hx
  · rw [hset2 i, h.st i]
    unfold memOf
    rw [List.mem_append]
    exact ⟨fun ⟨⟨a, b⟩, c⟩ => ⟨a, fun h => h.elim b c⟩, fun ⟨a, b⟩ => ⟨⟨a, fun h => b (.inl h)⟩, fun h => b (.inr h)⟩⟩
  · have hna : ¬ setOf al v := fun hs => by have := ((h.st v).1 hs).1; unfold setOf at this; rw [hv0] at this; cases this
    rw [hold v hv hna, h.out v hv hv0]
  · refine h.ext wn' (Sol.step (q := 1 - leastP g R) hD hP1 (fun i hi hn ho j he => hA2.mine i hi hn ho j he) (hs'.congrS hset2) (fun i hi => ?_) (h.owners hG)) fun i hi => ?_
    · rw [hag i (by unfold memOf; rw [List.mem_append]; exact .inr hi), k4 i hi]
    · obtain ⟨v, e, hv, -⟩ := h.gr _ hi
      obtain rfl : i = v := by omega
      rw [hag i (by unfold memOf; rw [List.mem_append]; exact .inl hi)]
      exact hold i hv fun hs => ((h.st i).1 hs).2 hi
  · obtain ⟨x, hx⟩ := List.exists_mem_of_ne_nil _ hne
    have hq := h2.tq x hx
    obtain ⟨v, rfl, hv, ha⟩ := h2.qr x hq
    refine filter_less (h.mem.all v hv ha) ?_
    cases hb : inS st2.al (v : Int)
    · rfl
    · exact absurd hq ((hset2 v).1 hb).2

/-- The end of the rounds. -/
theorem PInv.done (h : PInv g n al0 wn0 al [] gone wn) : Sol g (setOf al0) (fun i => wn.getD i 0) :=
  h.ext _ (Sol.empty fun i hi => by have := h.mem.all i (by have := set_lt hi; rw [h.la] at this; exact this) hi; cases this) fun _ _ => rfl

end
end Go.Proofs.Ytjhafakkadnfmaa
