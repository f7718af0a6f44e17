/- What the recursive step keeps, in plain lists. -/
import Derived.Test.YtjhafakkadnfmaaSo8
namespace Go.Proofs.Ytjhafakkadnfmaa

theorem listSnoc {motive : List Int → Prop} (nil : motive []) (snoc : ∀ l x, motive l → motive (l ++ [x])) (l : List Int) : motive l := by
  have : ∀ k (l : List Int), l.length = k → motive l := by
    intro k
    induction k with
    | zero => intro l hl; rw [List.eq_nil_of_length_eq_zero hl]; exact nil
    | succ k ih =>
      intro l hl
      have hne : l ≠ [] := fun e => by rw [e] at hl; cases hl
      rw [← List.dropLast_concat_getLast hne]
      exact snoc _ _ (ih _ (by rw [List.length_dropLast]; omega))
  exact this l.length l rfl

section
variable {g : Gm} {n : Nat} {bf : List (List Int)} {al : List Bool} {lf : List Int} {p : Int} {t : List Int} {st : Wk}

/-! The best positions. -/

theorem lowP_le (par : Int) : ∀ (r : List Int) (x : Int), x ∈ r → g.prio.getD x.toNat 0 % 2 = par → lowP g par r ≤ g.prio.getD x.toNat 0 := by
  intro r
  induction r using listSnoc with
  | nil => intro x hx; cases hx
  | snoc r v ih =>
    intro x hx hp
    rw [lowP_snoc]
    rcases List.mem_append.1 hx with h | h
    · have := ih x h hp
      split <;> omega
    · obtain rfl := List.mem_singleton.1 h
      rw [if_pos hp]; omega
theorem lowP_is (par : Int) : ∀ (r : List Int), lowP g par r = 9223372036854775807 ∨ ∃ x ∈ r, g.prio.getD x.toNat 0 % 2 = par ∧ lowP g par r = g.prio.getD x.toNat 0 := by
  intro r
  induction r using listSnoc with
  | nil => exact .inl rfl
  | snoc r v ih =>
    rw [lowP_snoc]
    by_cases hp : g.prio.getD v.toNat 0 % 2 = par
    · rw [if_pos hp]
      rcases (by omega : min (lowP g par r) (g.prio.getD v.toNat 0) = g.prio.getD v.toNat 0 ∨ min (lowP g par r) (g.prio.getD v.toNat 0) = lowP g par r) with h | h
      · exact .inr ⟨v, by simp, hp, h⟩
      · rw [h]
        rcases ih with h' | ⟨x, h1, h2, h3⟩
        · exact .inl h'
        · exact .inr ⟨x, by simp [h1], h2, h3⟩
    · rw [if_neg hp]
      rcases ih with h' | ⟨x, h1, h2, h3⟩
      · exact .inl h'
      · exact .inr ⟨x, by simp [h1], h2, h3⟩
theorem leastP_two (r : List Int) : leastP g r = 0 ∨ leastP g r = 1 := by unfold leastP; split <;> simp
theorem best_sub {r : List Int} {x : Int} (h : x ∈ bestL g r) : x ∈ r := (List.mem_filter.1 h).1
theorem best_low {r : List Int} {x : Int} (h : x ∈ bestL g r) {y : Int} (hy : y ∈ r) (hl : Lost (leastP g r) (g.prio.getD y.toNat 0)) : g.prio.getD x.toNat 0 < g.prio.getD y.toNat 0 := by
  have h1 := (List.mem_filter.1 h).2
  simp only [bestF, decide_eq_true_eq] at h1
  unfold Lost at hl
  rcases leastP_two (g := g) r with e | e
  · rw [e] at h1 hl
    rw [if_pos rfl] at h1
    have := lowP_le (g := g) 1 r y hy (by omega)
    omega
  · rw [e] at h1 hl
    rw [if_neg (by decide)] at h1
    have := lowP_le (g := g) 0 r y hy (by omega)
    omega
theorem best_ne {r : List Int} (hr : r ≠ []) (hp : ∀ x ∈ r, 0 ≤ g.prio.getD x.toNat 0 ∧ g.prio.getD x.toNat 0 ≤ 30000) : ∃ x, x ∈ bestL g r := by
  obtain ⟨y, hy⟩ := List.exists_mem_of_ne_nil r hr
  have hyp := hp y hy
  have l0 := lowP_le (g := g) 0 r y hy
  have l1 := lowP_le (g := g) 1 r y hy
  by_cases hlt : lowP g 1 r < lowP g 0 r
  · have e : leastP g r = 1 := if_pos hlt
    rcases lowP_is (g := g) 1 r with h | ⟨x, h1, h2, h3⟩
    · rcases lowP_is (g := g) 0 r with h' | ⟨z, k1, k2, k3⟩
      · omega
      · have := hp z k1; omega
    · refine ⟨x, List.mem_filter.2 ⟨h1, ?_⟩⟩
      simp only [bestF, e, decide_eq_true_eq]
      rw [if_neg (by decide)]; omega
  · have e : leastP g r = 0 := if_neg hlt
    rcases lowP_is (g := g) 0 r with h | ⟨x, h1, h2, h3⟩
    · rcases (by omega : g.prio.getD y.toNat 0 % 2 = 0 ∨ g.prio.getD y.toNat 0 % 2 = 1) with hh | hh
      · have := l0 hh; omega
      · have := l1 hh; omega
    · refine ⟨x, List.mem_filter.2 ⟨h1, ?_⟩⟩
      simp only [bestF, e, decide_eq_true_eq, if_true]
      rcases lowP_is (g := g) 1 r with h' | ⟨z, k1, k2, k3⟩
      · have := hp x h1; omega
      · omega

/-! What attract leaves. -/

def setOf (al : List Bool) (i : Nat) : Prop := al.getD i false = true
def memOf (l : List Int) (i : Nat) : Prop := (i : Int) ∈ l

theorem TotB.total (hG : GOK g n bf) (hl : al.length = n) (h : TotB g n al) : Total g (setOf al) := fun i hi => by
  have hin : i < n := by
    rcases Nat.lt_or_ge i n with h | h
    · exact h
    · simp [setOf, List.getD, List.getElem?_eq_none (by omega : al.length ≤ i)] at hi
  obtain ⟨x, hx, hs⟩ := h i hin hi
  obtain ⟨v, rfl, hv⟩ := hG.rg i hin x hx
  exact ⟨v, hx, hs⟩
theorem Total.totB (h : Total g (setOf al)) : TotB g n al := fun v hv hal => by
  obtain ⟨j, h1, h2⟩ := h v hal
  exact ⟨(j : Int), h1, h2⟩
theorem set_lt {i : Nat} (h : setOf al i) : i < al.length := by
  rcases Nat.lt_or_ge i al.length with h' | h'
  · exact h'
  · simp [setOf, List.getD, List.getElem?_eq_none h'] at h

/-- The result of attract, as a set. -/
theorem WInv.attIn (h : WInv g p n al t st.q.length [] st) (hG : GOK g n bf) (hl : al.length = n) : AttIn g p (setOf al) (memOf t) (memOf st.q) := h.att (Nat.le_refl _) hG.rg hl
theorem WInv.set (h : WInv g p n al t st.q.length [] st) (hl : al.length = n) (i : Nat) : setOf st.al i ↔ setOf al i ∧ ¬ memOf st.q i := by
  by_cases hi : i < n
  · unfold setOf memOf
    rw [h.al i hi]
    simp
  · constructor
    · intro hs; have := set_lt hs; rw [h.la] at this; omega
    · intro hs; have := set_lt hs.1; omega
theorem WInv.lfOK (h : WInv g p n al t st.q.length [] st) (hG : GOK g n bf) : LfOK g n st.al st.lf := fun v hv => by
  have h1 := h.lf v hv
  simp only [List.count_nil, List.take_length] at h1
  have e : (g.succ.getD v []).countP (inS st.al) = (g.succ.getD v []).countP (fun x => inS al x && decide (x ∉ st.q)) := by
    refine List.countP_congr fun x hx => ?_
    obtain ⟨y, rfl, hy⟩ := hG.rg v hv x hx
    unfold inS
    rw [Int.toNat_natCast, h.al y hy]
  rw [e]; omega
theorem count_sum {f : Int → Bool} (l : List Int) : ∀ (q : List Int), q.Nodup → (∀ u ∈ q, f u = true) → l.countP f = l.countP (fun x => f x && decide (x ∉ q)) + (q.map fun u => l.count u).sum := by
  intro q
  induction q using listSnoc with
  | nil => intro _ _; simp
  | snoc q u ih =>
    intro hn hf
    rw [List.nodup_append] at hn
    have hu : u ∉ q := fun h => hn.2.2 u h u (by simp) rfl
    rw [ih hn.1 (fun x hx => hf x (by simp [hx])), countSplit l q u (hf u (by simp)) hu]
    simp; omega
theorem rowsC_eq (hG : GOK g n bf) {q : List Int} (hq : ∀ x ∈ q, ∃ v : Nat, x = v ∧ v < n) {v : Nat} (hv : v < n) : rowsC bf q v = (q.map fun u => (g.succ.getD v []).count u).sum := by
  unfold rowsC
  congr 1
  refine List.map_congr_left fun x hx => ?_
  obtain ⟨u, rfl, hu⟩ := hq x hx
  rw [Int.toNat_natCast, hG.bo.ct u v hu hv]

theorem ext_getB {a b : List Bool} (hl : a.length = b.length) (h : ∀ i, i < a.length → a.getD i false = b.getD i false) : a = b := by
  apply List.ext_getElem hl
  intro i h1 h2
  have := h i h1
  rwa [getD_lt _ _ _ h1, getD_lt _ _ _ h2] at this
theorem ext_getI {a b : List Int} (hl : a.length = b.length) (h : ∀ i, i < a.length → a.getD i 0 = b.getD i 0) : a = b := by
  apply List.ext_getElem hl
  intro i h1 h2
  have := h i h1
  rwa [getD_lt _ _ _ h1, getD_lt _ _ _ h2] at this

/-- Putting back what was taken out: al1 is al without q. -/
theorem revive_al {al al1 : List Bool} {q : List Int} (hl : al.length = n) (hl1 : al1.length = n) (hq : ∀ x ∈ q, ∃ v : Nat, x = v ∧ v < n ∧ al.getD v false = true) (h : ∀ i, setOf al1 i ↔ setOf al i ∧ ¬ memOf q i) : liftB al1 q true = al := by
  refine ext_getB (by rw [liftB_len, hl, hl1]) fun i hi => ?_
  rw [liftB_len] at hi
  rw [liftB_get _ _ _ (fun x hx => by obtain ⟨v, e, h1, -⟩ := hq x hx; exact ⟨v, e, by omega⟩) i hi]
  by_cases hm : (i : Int) ∈ q
  · rw [if_pos hm]
    obtain ⟨v, e, -, h1⟩ := hq _ hm
    obtain rfl : i = v := by omega
    exact h1.symm
  · rw [if_neg hm]
    have := h i
    unfold setOf memOf at this
    rw [Bool.eq_iff_iff, this]
    exact ⟨fun h => h.1, fun h => ⟨h, hm⟩⟩
theorem revive_lf {al al1 : List Bool} {lf lf1 q : List Int} (hG : GOK g n bf) (hl : lf.length = n) (hl1 : lf1.length = n) (hq : ∀ x ∈ q, ∃ v : Nat, x = v ∧ v < n ∧ al.getD v false = true) (hn : q.Nodup) (h : ∀ i, setOf al1 i ↔ setOf al i ∧ ¬ memOf q i) (h0 : LfOK g n al lf) (h1 : LfOK g n al1 lf1) : revAll bf lf1 q = lf := by
  refine ext_getI (by rw [revAll_len, hl, hl1]) fun v hv => ?_
  rw [revAll_len, hl1] at hv
  rw [revAll_get bf hG.bo.rg q lf1 hl1 v hv, h1 v hv, h0 v hv, rowsC_eq hG (fun x hx => by obtain ⟨v, e, h1, -⟩ := hq x hx; exact ⟨v, e, h1⟩) hv]
  rw [count_sum (f := inS al) (g.succ.getD v []) q hn (fun u hu => by obtain ⟨y, rfl, -, h⟩ := hq u hu; exact h)]
  have e : (g.succ.getD v []).countP (inS al1) = (g.succ.getD v []).countP (fun x => inS al x && decide (x ∉ q)) := by
    refine List.countP_congr fun x hx => ?_
    obtain ⟨y, rfl, hy⟩ := hG.rg v hv x hx
    have := h y
    unfold setOf memOf at this
    unfold inS
    rw [Int.toNat_natCast, this]
    simp
  rw [e]; omega

/-- The positions of a part, as a list. -/
structure Mem (n : Nat) (al : List Bool) (r : List Int) : Prop where
  rg : ∀ x ∈ r, ∃ v : Nat, x = v ∧ v < n ∧ al.getD v false = true
  all : ∀ v : Nat, v < n → al.getD v false = true → (v : Int) ∈ r
  nd : r.Nodup
theorem Mem.len {r : List Int} (h : Mem n al r) : r.length ≤ n := by
  refine Nat.le_of_not_lt fun hlt => ?_
  obtain ⟨i, j, h1, h2, h3⟩ := pigeon n (fun i => (r.getD i 0).toNat) fun i hi => by
    obtain ⟨v, e, hv, -⟩ := h.rg _ (get_mem (show i < r.length by omega))
    simp only [e, Int.toNat_natCast]; exact hv
  obtain ⟨v, e, -, -⟩ := h.rg _ (get_mem (show i < r.length by omega))
  obtain ⟨v', e', -, -⟩ := h.rg _ (get_mem (show j < r.length by omega))
  simp only [e, e', Int.toNat_natCast] at h3
  have := nodup_get h.nd (show i < r.length by omega) (show j < r.length by omega) (by rw [e, e', h3])
  omega
/-- Those that are still alive. -/
theorem Mem.filter {al1 : List Bool} {r : List Int} (h : Mem n al r) (hs : ∀ i, setOf al1 i → setOf al i) : Mem n al1 (r.filter (inS al1)) := by
  refine ⟨fun x hx => ?_, fun v hv ha => ?_, h.nd.filter _⟩
  · obtain ⟨h1, h2⟩ := List.mem_filter.1 hx
    obtain ⟨v, rfl, hv, -⟩ := h.rg x h1
    exact ⟨v, rfl, hv, h2⟩
  · exact List.mem_filter.2 ⟨h.all v hv (hs v ha), ha⟩
theorem filter_less {r : List Int} {f : Int → Bool} {x : Int} (hx : x ∈ r) (hf : f x = false) : (r.filter f).length < r.length := by
  induction r with
  | nil => cases hx
  | cons y r ih =>
    rcases List.mem_cons.1 hx with rfl | h
    · rw [List.filter_cons_of_neg (by simp [hf]), List.length_cons]
      have := List.length_filter_le f r
      omega
    · have := ih h
      by_cases hy : f y = true
      · rw [List.filter_cons_of_pos hy, List.length_cons, List.length_cons]; omega
      · rw [List.filter_cons_of_neg hy, List.length_cons]; omega

end
end Go.Proofs.Ytjhafakkadnfmaa
