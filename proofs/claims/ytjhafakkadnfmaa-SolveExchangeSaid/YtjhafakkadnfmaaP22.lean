/- Plain facts of the laws on moves, complements and traps. -/
import Derived.Test.YtjhafakkadnfmaaP21
namespace Go.Proofs.Ytjhafakkadnfmaa

/-! The least and the greatest number of a successor, and how many have none. -/

def leastL (m : List Int) (l : List Int) : Int := l.foldl (fun a x => if m.getD x.toNat 0 < 0 then a else min a (m.getD x.toNat 0)) 1000000
def mostL (m : List Int) (l : List Int) : Int := l.foldl (fun a x => if m.getD x.toNat 0 < 0 then a else max a (m.getD x.toNat 0)) 0
def outL (m : List Int) (l : List Int) : Int := l.foldl (fun a x => if m.getD x.toNat 0 < 0 then a + 1 else a) 0

theorem leastL_snoc (m l : List Int) (x : Int) : leastL m (l ++ [x]) = if m.getD x.toNat 0 < 0 then leastL m l else min (leastL m l) (m.getD x.toNat 0) := by simp [leastL]
theorem mostL_snoc (m l : List Int) (x : Int) : mostL m (l ++ [x]) = if m.getD x.toNat 0 < 0 then mostL m l else max (mostL m l) (m.getD x.toNat 0) := by simp [mostL]
theorem outL_snoc (m l : List Int) (x : Int) : outL m (l ++ [x]) = if m.getD x.toNat 0 < 0 then outL m l + 1 else outL m l := by simp [outL]

theorem snoc_ind {P : List Int → Prop} (h0 : P []) (h1 : ∀ l x, P l → P (l ++ [x])) (l : List Int) : P l := by
  have : ∀ n (l : List Int), l.length = n → P l := by
    intro n
    induction n with
    | zero => intro l hl; rw [List.eq_nil_of_length_eq_zero hl]; exact h0
    | succ n ih =>
      intro l hl
      have hne : l ≠ [] := by intro e; rw [e] at hl; simp at hl
      rw [← List.dropLast_concat_getLast hne]
      exact h1 _ _ (ih _ (by simp [hl]))
  exact this _ l rfl

theorem leastL_is (m l : List Int) : (∀ x ∈ l, 0 ≤ m.getD x.toNat 0 → leastL m l ≤ m.getD x.toNat 0) ∧ (leastL m l = 1000000 ∨ ∃ x ∈ l, 0 ≤ m.getD x.toNat 0 ∧ leastL m l = m.getD x.toNat 0) := by
  induction l using snoc_ind with
  | h0 => exact ⟨by simp, .inl rfl⟩
  | h1 l y ih =>
    obtain ⟨i1, i2⟩ := ih
    rw [leastL_snoc]
    split
    · rename_i h
      refine ⟨fun x hx h0 => ?_, ?_⟩
      · rcases List.mem_append.1 hx with hx | hx
        · exact i1 x hx h0
        · rw [List.mem_singleton.1 hx] at h0; omega
      · rcases i2 with i2 | ⟨x, hx, h0, e⟩
        · exact .inl i2
        · exact .inr ⟨x, List.mem_append_left _ hx, h0, e⟩
    · rename_i h
      refine ⟨fun x hx h0 => ?_, ?_⟩
      · rcases List.mem_append.1 hx with hx | hx
        · have := i1 x hx h0; omega
        · rw [List.mem_singleton.1 hx]; omega
      · rcases Int.le_total (leastL m l) (m.getD y.toNat 0) with hle | hle
        · rw [Int.min_eq_left hle]
          rcases i2 with i2 | ⟨x, hx, h0, e⟩
          · exact .inl i2
          · exact .inr ⟨x, List.mem_append_left _ hx, h0, e⟩
        · rw [Int.min_eq_right hle]
          exact .inr ⟨y, by simp, by omega, rfl⟩

theorem mostL_is (m l : List Int) : (∀ x ∈ l, 0 ≤ m.getD x.toNat 0 → m.getD x.toNat 0 ≤ mostL m l) ∧ (mostL m l = 0 ∨ ∃ x ∈ l, 0 ≤ m.getD x.toNat 0 ∧ mostL m l = m.getD x.toNat 0) ∧ 0 ≤ mostL m l := by
  induction l using snoc_ind with
  | h0 => exact ⟨by simp, .inl rfl, by simp [mostL]⟩
  | h1 l y ih =>
    obtain ⟨i1, i2, i3⟩ := ih
    rw [mostL_snoc]
    split
    · rename_i h
      refine ⟨fun x hx h0 => ?_, ?_, i3⟩
      · rcases List.mem_append.1 hx with hx | hx
        · exact i1 x hx h0
        · rw [List.mem_singleton.1 hx] at h0; omega
      · rcases i2 with i2 | ⟨x, hx, h0, e⟩
        · exact .inl i2
        · exact .inr ⟨x, List.mem_append_left _ hx, h0, e⟩
    · rename_i h
      refine ⟨fun x hx h0 => ?_, ?_, by omega⟩
      · rcases List.mem_append.1 hx with hx | hx
        · have := i1 x hx h0; omega
        · rw [List.mem_singleton.1 hx]; omega
      · rcases Int.le_total (mostL m l) (m.getD y.toNat 0) with hle | hle
        · rw [Int.max_eq_right hle]
          exact .inr ⟨y, by simp, by omega, rfl⟩
        · rw [Int.max_eq_left hle]
          rcases i2 with i2 | ⟨x, hx, h0, e⟩
          · exact .inl i2
          · exact .inr ⟨x, List.mem_append_left _ hx, h0, e⟩

theorem outL_is (m l : List Int) : 0 ≤ outL m l ∧ outL m l ≤ l.length ∧ ((∀ x ∈ l, 0 ≤ m.getD x.toNat 0) → outL m l = 0) ∧ ((∃ x ∈ l, m.getD x.toNat 0 < 0) → 0 < outL m l) ∧ ((∀ x ∈ l, m.getD x.toNat 0 < 0) → outL m l = l.length) := by
  induction l using snoc_ind with
  | h0 => simp [outL]
  | h1 l y ih =>
    obtain ⟨i0, i1, i2, i3, i4⟩ := ih
    rw [outL_snoc, List.length_append, List.length_singleton]
    by_cases h : m.getD y.toNat 0 < 0
    · rw [if_pos h]
      refine ⟨by omega, by omega, fun ha => ?_, fun _ => by omega, fun ha => ?_⟩
      · have := ha y (by simp); omega
      · rw [i4 (fun x hx => ha x (List.mem_append_left _ hx))]; omega
    · rw [if_neg h]
      refine ⟨by omega, by omega, fun ha => i2 (fun x hx => ha x (List.mem_append_left _ hx)), fun ⟨x, hx, h0⟩ => ?_, fun ha => ?_⟩
      · rcases List.mem_append.1 hx with hx | hx
        · exact i3 ⟨x, hx, h0⟩
        · rw [List.mem_singleton.1 hx] at h0; omega
      · have := ha y (by simp); omega

section
variable {g : Gm} {p : Int} {t inn : List Bool} {mv : List Int}

/-- What the law on moves asks of a position. -/
def MoveOK (g : Gm) (p : Int) (mv : List Int) (i : Nat) : Prop :=
  (0 < mv.getD i 0 → g.owner.getD i 0 = p → leastL mv (g.succ.getD i []) = mv.getD i 0 - 1) ∧
  (0 < mv.getD i 0 → g.owner.getD i 0 ≠ p → outL mv (g.succ.getD i []) = 0 ∧ mostL mv (g.succ.getD i []) = mv.getD i 0 - 1) ∧
  (mv.getD i 0 < 0 → g.owner.getD i 0 = p → outL mv (g.succ.getD i []) = (g.succ.getD i []).length) ∧
  (mv.getD i 0 < 0 → g.owner.getD i 0 ≠ p → 0 < outL mv (g.succ.getD i []))

theorem Attr.moves (h : Attr g p t inn mv) (hl : t.length ≤ 1000) (hg : ∀ i, i < t.length → ∀ x ∈ g.succ.getD i [], 0 ≤ x ∧ x < t.length) (i : Nat) (hi : i < t.length) : MoveOK g p mv i := by
  have hB : ∀ x ∈ g.succ.getD i [], (atB inn x = true ↔ 0 ≤ mv.getD x.toNat 0) := fun x hx => by
    have := hg i hi x hx
    exact h.im x.toNat (by omega)
  have hu := h.ub i hi
  have hf : mv.getD i 0 < 0 → inn.getD i false = false := fun h0 => by
    cases hb : inn.getD i false
    · rfl
    · have := (h.im i hi).1 hb; omega
  refine ⟨fun h0 ho => ?_, fun h0 ho => ?_, fun h0 ho => ?_, fun h0 ho => ?_⟩
  · obtain ⟨⟨x, hx, hb, e⟩, h2⟩ := h.ow i hi ho h0
    obtain ⟨l1, l2⟩ := leastL_is mv (g.succ.getD i [])
    have a1 := l1 x hx ((hB x hx).1 hb)
    rcases l2 with l2 | ⟨y, hy, y0, e2⟩
    · omega
    · have := h2 y hy ((hB y hy).2 y0); omega
  · obtain ⟨⟨x, hx, hb, e⟩, h2⟩ := h.ot i hi ho h0
    obtain ⟨l1, l2, l3⟩ := mostL_is mv (g.succ.getD i [])
    have a1 := l1 x hx ((hB x hx).1 hb)
    refine ⟨(outL_is mv _).2.2.1 fun y hy => (hB y hy).1 (h2 y hy).1, ?_⟩
    rcases l2 with l2 | ⟨y, hy, y0, e2⟩
    · have := (hB x hx).1 hb; omega
    · have := (h2 y hy).2; omega
  · refine (outL_is mv _).2.2.2.2 fun x hx => ?_
    have h1 := h.cw i hi ho (hf h0) x hx
    rcases Int.lt_or_le (mv.getD x.toNat 0) 0 with h2 | h2
    · exact h2
    · rw [(hB x hx).2 h2] at h1; cases h1
  · obtain ⟨x, hx, h1⟩ := h.ct i hi ho (hf h0)
    refine (outL_is mv _).2.2.2.1 ⟨x, hx, ?_⟩
    rcases Int.lt_or_le (mv.getD x.toNat 0) 0 with h2 | h2
    · exact h2
    · rw [(hB x hx).2 h2] at h1; cases h1

end

section
variable {g : Gm} {p : Int} {n : Nat}

theorem closedQ_other (g : Gm) (p : Int) (s : List Bool) : closedQ g (1 - p) s = notL (attQ g p (notL s)).inn := by
  unfold closedQ
  rw [show (1 : Int) - (1 - p) = p from by omega]

theorem Fits.closed_len (F : Fits g p n) (hS : ∀ i, (g.succ.getD i []).length ≤ 1000) {s : List Bool} (hs : s.length = n) : (closedQ g p s).length = n := by
  unfold closedQ
  rw [notL_len, (F.other.attr hS (t := notL s) (by rw [notL_len, hs])).li, notL_len, hs]

theorem Fits.closed_sub (F : Fits g p n) (hS : ∀ i, (g.succ.getD i []).length ≤ 1000) {s : List Bool} (hs : s.length = n) : ∀ i, i < n → (closedQ g p s).getD i false = true → s.getD i false = true := fun i hi h => by
  have A := F.other.attr hS (t := notL s) (by rw [notL_len, hs])
  unfold closedQ at h
  rw [notL_get _ _ (by rw [A.li, notL_len]; omega)] at h
  cases hb : s.getD i false
  · rw [A.mem i (by rw [notL_len]; omega) (by rw [notL_get _ _ (by omega), hb]; rfl)] at h
    cases h
  · rfl

theorem Fits.closed_trap (F : Fits g p n) (hS : ∀ i, (g.succ.getD i []).length ≤ 1000) {s : List Bool} (hs : s.length = n) : trapB g (1 - p) (closedQ g p s) = true :=
  F.other.trap hS (t := notL s) (by rw [notL_len, hs])

/-- What the law on complements asks. -/
theorem L4_facts (F : Fits g p n) (hS : ∀ i, (g.succ.getD i []).length ≤ 1000) {s : List Bool} (hs : s.length = n) :
    trapB g p (notL (attQ g p s).inn) = true ∧ partB (closedQ g p s) s = true ∧ trapB g (1 - p) (closedQ g p s) = true ∧ closedQ g p s = notL (attQ g (1 - p) (notL s)).inn :=
  ⟨F.trap hS hs, (partB_iff (by rw [F.closed_len hS hs, hs])).2 (fun i hi => F.closed_sub hS hs i (by rwa [F.closed_len hS hs] at hi)), F.closed_trap hS hs, rfl⟩

theorem trap_all (F : Fits g p n) : trapB g p (List.replicate n true) = true := by
  rw [trapB_iff (by simpa using F)]
  simp only [List.length_replicate]
  have hr : ∀ x : Int, 0 ≤ x ∧ x < n → atB (List.replicate n true) x = true := fun x hx => by
    unfold atB
    simp only [List.getD, List.getElem?_replicate]
    rw [if_pos (by omega)]; rfl
  intro i hi _
  refine ⟨fun _ => ?_, fun _ x hx => hr x (F.rg i hi x hx)⟩
  obtain ⟨x, hx⟩ := List.exists_mem_of_ne_nil _ (F.ne i hi)
  exact ⟨x, hx, hr x (F.rg i hi x hx)⟩

theorem trap_none (F : Fits g p n) : trapB g p (notL (List.replicate n true)) = true := by
  rw [trapB_iff (by simpa [notL] using F)]
  intro i hi h
  simp [notL, List.getD, List.getElem?_replicate] at h
  split at h <;> simp at h

theorem trap_or (F : Fits g p n) {a b : List Bool} (ha : a.length = n) (hb : b.length = n) (h1 : trapB g p a = true) (h2 : trapB g p b = true) : trapB g p (orK a b n) = true := by
  rw [trapB_iff (by rw [ha]; exact F)] at h1
  rw [trapB_iff (by rw [hb]; exact F)] at h2
  rw [trapB_iff (by rw [orK_len]; exact F)]
  rw [orK_len]
  have hor : ∀ x : Int, 0 ≤ x ∧ x < n → (atB a x = true ∨ atB b x = true) → atB (orK a b n) x = true := fun x hx h => by
    unfold atB at *
    rw [orK_get _ _ _ _ (by omega)]
    rcases h with h | h <;> rw [h] <;> simp
  intro i hi h
  rw [orK_get _ _ _ _ hi, Bool.or_eq_true] at h
  rcases h with h | h
  · obtain ⟨k1, k2⟩ := h1 i (by omega) h
    refine ⟨fun ho => ?_, fun ho x hx => hor x (F.rg i hi x hx) (.inl (k2 ho x hx))⟩
    obtain ⟨x, hx, hb⟩ := k1 ho
    exact ⟨x, hx, hor x (F.rg i hi x hx) (.inl hb)⟩
  · obtain ⟨k1, k2⟩ := h2 i (by omega) h
    refine ⟨fun ho => ?_, fun ho x hx => hor x (F.rg i hi x hx) (.inr (k2 ho x hx))⟩
    obtain ⟨x, hx, hb⟩ := k1 ho
    exact ⟨x, hx, hor x (F.rg i hi x hx) (.inr hb)⟩

/-- What the law on traps asks. -/
structure L5F (g : Gm) (p : Int) (n : Nat) (a b x y z : List Bool) : Prop where
  e1 : closedQ g (1 - p) a = x
  e2 : closedQ g (1 - p) b = y
  e3 : closedQ g (1 - p) (orK a b n) = z
  l1 : x.length = n
  l2 : y.length = n
  l3 : z.length = n
  t1 : trapB g p (List.replicate n true) = true
  t2 : trapB g p (notL (List.replicate n true)) = true
  t3 : trapB g p (orK x y n) = true
  p1 : partB (orK x y n) z = true
  p2 : trapB g p a = true → partB a z = true

theorem L5_facts (F : Fits g p n) (hS : ∀ i, (g.succ.getD i []).length ≤ 1000) {a b : List Bool} (ha : a.length = n) (hb : b.length = n) : ∃ x y z, L5F g p n a b x y z := by
  have O := F.other
  have hpp : (1 : Int) - (1 - p) = p := by omega
  have l1 := O.closed_len hS ha
  have l2 := O.closed_len hS hb
  have hU : (orK a b n).length = n := orK_len _ _ _
  have l3 := O.closed_len hS hU
  have t1 := O.closed_trap hS ha
  have t2 := O.closed_trap hS hb
  rw [hpp] at t1 t2
  have hsub : ∀ c : List Bool, c.length = n → trapB g p c = true → (∀ i, i < n → c.getD i false = true → (orK a b n).getD i false = true) → ∀ i, i < n → c.getD i false = true → (closedQ g (1 - p) (orK a b n)).getD i false = true :=
    fun c hc hT hcs => by rw [closedQ_other]; exact F.trap_out hS hc hU hT hcs
  have oa : ∀ i, i < n → a.getD i false = true → (orK a b n).getD i false = true := fun i hi h => by rw [orK_get _ _ _ _ hi, h]; rfl
  have ob : ∀ i, i < n → b.getD i false = true → (orK a b n).getD i false = true := fun i hi h => by rw [orK_get _ _ _ _ hi, h]; simp
  refine ⟨_, _, _, ⟨rfl, rfl, rfl, l1, l2, l3, trap_all F, trap_none F, trap_or F l1 l2 t1 t2, ?_, fun hT => ?_⟩⟩
  · rw [partB_iff (by rw [orK_len, l3])]
    rw [orK_len]
    intro i hi h
    rw [orK_get _ _ _ _ hi, Bool.or_eq_true] at h
    rcases h with h | h
    · exact hsub _ l1 t1 (fun i hi h => oa i hi (O.closed_sub hS ha i hi h)) i hi h
    · exact hsub _ l2 t2 (fun i hi h => ob i hi (O.closed_sub hS hb i hi h)) i hi h
  · rw [partB_iff (by rw [ha, l3])]
    rw [ha]
    exact hsub a ha hT oa

end
end Go.Proofs.Ytjhafakkadnfmaa
