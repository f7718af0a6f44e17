/- The attractor told by its positions: what it is closed under, and why its members are in it; what follows for sets, complements and traps. -/
import Derived.Test.YtjhafakkadnfmaaP20
namespace Go.Proofs.Ytjhafakkadnfmaa

/-- The attractor inn of t for p, with its numbers mv. -/
structure Attr (g : Gm) (p : Int) (t inn : List Bool) (mv : List Int) : Prop where
  li : inn.length = t.length
  lm : mv.length = t.length
  im : ∀ i, i < t.length → (inn.getD i false = true ↔ 0 ≤ mv.getD i 0)
  ng : ∀ i, i < t.length → inn.getD i false = false → mv.getD i 0 = -1
  ub : ∀ i, i < t.length → mv.getD i 0 ≤ t.length
  tg : ∀ i, i < t.length → (t.getD i false = true ↔ mv.getD i 0 = 0)
  ow : ∀ i, i < t.length → g.owner.getD i 0 = p → 0 < mv.getD i 0 → (∃ x ∈ g.succ.getD i [], atB inn x = true ∧ mv.getD x.toNat 0 + 1 = mv.getD i 0) ∧ ∀ x ∈ g.succ.getD i [], atB inn x = true → mv.getD i 0 ≤ mv.getD x.toNat 0 + 1
  ot : ∀ i, i < t.length → g.owner.getD i 0 ≠ p → 0 < mv.getD i 0 → (∃ x ∈ g.succ.getD i [], atB inn x = true ∧ mv.getD x.toNat 0 + 1 = mv.getD i 0) ∧ ∀ x ∈ g.succ.getD i [], atB inn x = true ∧ mv.getD x.toNat 0 + 1 ≤ mv.getD i 0
  cw : ∀ i, i < t.length → g.owner.getD i 0 = p → inn.getD i false = false → ∀ x ∈ g.succ.getD i [], atB inn x = false
  ct : ∀ i, i < t.length → g.owner.getD i 0 ≠ p → inn.getD i false = false → ∃ x ∈ g.succ.getD i [], atB inn x = false

theorem attQ_attr (g : Gm) (p : Int) (t : List Bool) (hg : ∀ i, i < t.length → ∀ x ∈ g.succ.getD i [], 0 ≤ x ∧ x < t.length) (hne : ∀ i, i < t.length → g.succ.getD i [] ≠ []) (hS : ∀ i, (g.succ.getD i []).length ≤ 1000) :
    Attr g p t (attQ g p t).inn (attQ g p t).mv := by
  obtain ⟨h, N, hok⟩ := attQ_inv g p t hg hne hS
  generalize attQ g p t = st at *
  have hB : ∀ i, i < t.length → ∀ x ∈ g.succ.getD i [], (atB st.inn x = true ↔ x ∈ st.q) := fun i hi x hx => by
    obtain ⟨h0, h1⟩ := hg i hi x hx
    have := h.iq x.toNat (by omega)
    rw [Int.toNat_of_nonneg h0] at this
    exact this
  have hin : ∀ i : Nat, i < t.length → (i : Int) ∈ st.q → 0 ≤ st.mv.getD i 0 ∧ st.mv.getD i 0 ≤ t.length := fun i hi hm => by
    obtain ⟨j, hj, e⟩ := mem_getD hm
    have h1 := h.mj j hj
    rw [e] at h1
    simp only [Att.at, Int.toNat_natCast] at h1
    have := hok.qn
    omega
  have hno : ∀ i : Nat, i < t.length → (i : Int) ∉ st.q → st.mv.getD i 0 = -1 := fun i hi hm => by
    have := h.no i hi hm
    simpa only [Att.at, Int.toNat_natCast] using this
  have him : ∀ i, i < t.length → (st.inn.getD i false = true ↔ 0 ≤ st.mv.getD i 0) := fun i hi => by
    rw [h.iq i hi]
    constructor
    · exact fun hm => (hin i hi hm).1
    · intro h0
      by_cases hm : (i : Int) ∈ st.q
      · exact hm
      · have := hno i hi hm; omega
  have hgd : ∀ i : Nat, i < t.length → 0 < st.mv.getD i 0 → Good g p st i := fun i hi h0 => by
    have hm : (i : Int) ∈ st.q := (h.iq i hi).1 ((him i hi).2 (by omega))
    exact h.gd i hi hm (by simp only [Att.at, Int.toNat_natCast]; omega)
  have hnq : ∀ i : Nat, i < t.length → st.inn.getD i false = false → (i : Int) ∉ st.q := fun i hi hf hm => by
    rw [(h.iq i hi).2 hm] at hf; cases hf
  refine ⟨hok.li, hok.lm, him, fun i hi hf => hno i hi (hnq i hi hf), fun i hi => ?_, fun i hi => ?_, fun i hi ho h0 => ?_, fun i hi ho h0 => ?_, fun i hi ho hf x hx => ?_, fun i hi ho hf => ?_⟩
  · by_cases hm : (i : Int) ∈ st.q
    · exact (hin i hi hm).2
    · have := hno i hi hm; omega
  · rw [h.tg i hi]
    simp only [Att.at, Int.toNat_natCast]
    constructor
    · exact fun x => x.2
    · intro h0
      exact ⟨(h.iq i hi).1 ((him i hi).2 (by omega)), h0⟩
  · obtain ⟨⟨x, hx, hq, e⟩, h2⟩ := (hgd i hi h0).1 ho
    simp only [Att.at, Int.toNat_natCast] at e h2
    exact ⟨⟨x, hx, (hB i hi x hx).2 hq, e⟩, fun y hy hb => h2 y hy ((hB i hi y hy).1 hb)⟩
  · obtain ⟨⟨x, hx, hq, e⟩, h2⟩ := (hgd i hi h0).2 ho
    simp only [Att.at, Int.toNat_natCast] at e h2
    exact ⟨⟨x, hx, (hB i hi x hx).2 hq, e⟩, fun y hy => ⟨(hB i hi y hy).2 (h2 y hy).1, (h2 y hy).2⟩⟩
  · have h1 := (h.ow i hi (hnq i hi hf) ho).1 x hx
    rw [List.take_length] at h1
    cases hb : atB st.inn x
    · rfl
    · exact absurd ((hB i hi x hx).1 hb) h1
  · have h1 := h.ot i hi (hnq i hi hf) ho
    rw [h.lf i hi, List.take_length] at h1
    have h2 : ((g.succ.getD i []).filter (fun x => decide (x ∉ st.q))) ≠ [] := by
      intro e
      rw [e] at h1
      simp at h1
    obtain ⟨x, hx⟩ := List.exists_mem_of_ne_nil _ h2
    rw [List.mem_filter] at hx
    refine ⟨x, hx.1, ?_⟩
    cases hb : atB st.inn x
    · rfl
    · exact absurd ((hB i hi x hx.1).1 hb) (by simpa using hx.2)

section
variable {g : Gm} {p : Int} {t inn : List Bool} {mv : List Int}

/-- The attractor is the least set with the target that is closed under attraction. -/
theorem Attr.least (h : Attr g p t inn mv) (hg : ∀ i, i < t.length → ∀ x ∈ g.succ.getD i [], 0 ≤ x ∧ x < t.length) (C : Nat → Prop) (h0 : ∀ i, i < t.length → t.getD i false = true → C i)
    (h1 : ∀ i, i < t.length → g.owner.getD i 0 = p → (∃ x ∈ g.succ.getD i [], C x.toNat) → C i) (h2 : ∀ i, i < t.length → g.owner.getD i 0 ≠ p → (∀ x ∈ g.succ.getD i [], C x.toNat) → C i) :
    ∀ i, i < t.length → inn.getD i false = true → C i := by
  have key : ∀ k : Nat, ∀ i, i < t.length → mv.getD i 0 = k → C i := by
    intro k
    induction k using Nat.strongRecOn with
    | ind k ih =>
      intro i hi hk
      by_cases hz : mv.getD i 0 = 0
      · exact h0 i hi ((h.tg i hi).2 hz)
      · by_cases ho : g.owner.getD i 0 = p
        · obtain ⟨⟨x, hx, hb, e⟩, -⟩ := h.ow i hi ho (by omega)
          obtain ⟨x0, x1⟩ := hg i hi x hx
          have hn := (h.im x.toNat (by omega)).1 hb
          exact h1 i hi ho ⟨x, hx, ih (mv.getD x.toNat 0).toNat (by omega) x.toNat (by omega) (by omega)⟩
        · obtain ⟨-, h3⟩ := h.ot i hi ho (by omega)
          refine h2 i hi ho fun x hx => ?_
          obtain ⟨hb, hle⟩ := h3 x hx
          obtain ⟨x0, x1⟩ := hg i hi x hx
          have hn := (h.im x.toNat (by omega)).1 hb
          exact ih (mv.getD x.toNat 0).toNat (by omega) x.toNat (by omega) (by omega)
  intro i hi hb
  have := (h.im i hi).1 hb
  exact key (mv.getD i 0).toNat i hi (by omega)

theorem Attr.mem (h : Attr g p t inn mv) : ∀ i, i < t.length → t.getD i false = true → inn.getD i false = true := fun i hi ht => by
  rw [h.im i hi, (h.tg i hi).1 ht]; omega

theorem Attr.cow (h : Attr g p t inn mv) {i : Nat} (hi : i < t.length) (ho : g.owner.getD i 0 = p) {x : Int} (hx : x ∈ g.succ.getD i []) (hb : atB inn x = true) : inn.getD i false = true := by
  cases hf : inn.getD i false
  · have := h.cw i hi ho hf x hx
    rw [hb] at this; cases this
  · rfl
theorem Attr.cot (h : Attr g p t inn mv) {i : Nat} (hi : i < t.length) (ho : g.owner.getD i 0 ≠ p) (hb : ∀ x ∈ g.succ.getD i [], atB inn x = true) : inn.getD i false = true := by
  cases hf : inn.getD i false
  · obtain ⟨x, hx, e⟩ := h.ct i hi ho hf
    rw [hb x hx] at e; cases e
  · rfl

/-- A greater target has a greater attractor, which is reached no later. -/
theorem Attr.mono (h : Attr g p t inn mv) {t' inn' : List Bool} {mv' : List Int} (h' : Attr g p t' inn' mv') (hl : t'.length = t.length) (hg : ∀ i, i < t.length → ∀ x ∈ g.succ.getD i [], 0 ≤ x ∧ x < t.length)
    (hs : ∀ i, i < t.length → t.getD i false = true → t'.getD i false = true) : ∀ i, i < t.length → inn.getD i false = true → inn'.getD i false = true ∧ mv'.getD i 0 ≤ mv.getD i 0 := by
  have key : ∀ k : Nat, ∀ i, i < t.length → mv.getD i 0 = k → inn'.getD i false = true ∧ mv'.getD i 0 ≤ mv.getD i 0 := by
    intro k
    induction k using Nat.strongRecOn with
    | ind k ih =>
      intro i hi hk
      have hi' : i < t'.length := by omega
      by_cases hz : mv.getD i 0 = 0
      · have ht := hs i hi ((h.tg i hi).2 hz)
        have h2 := (h'.tg i hi').1 ht
        exact ⟨h'.mem i hi' ht, by omega⟩
      · by_cases ho : g.owner.getD i 0 = p
        · obtain ⟨⟨x, hx, hb, e⟩, -⟩ := h.ow i hi ho (by omega)
          obtain ⟨x0, x1⟩ := hg i hi x hx
          have hn := (h.im x.toNat (by omega)).1 hb
          obtain ⟨i1, i2⟩ := ih (mv.getD x.toNat 0).toNat (by omega) x.toNat (by omega) (by omega)
          have hin := h'.cow hi' ho hx i1
          refine ⟨hin, ?_⟩
          by_cases hz' : 0 < mv'.getD i 0
          · have := (h'.ow i hi' ho hz').2 x hx i1
            omega
          · omega
        · obtain ⟨-, h3⟩ := h.ot i hi ho (by omega)
          have hall : ∀ x ∈ g.succ.getD i [], atB inn' x = true ∧ mv'.getD x.toNat 0 + 1 ≤ mv.getD i 0 := fun x hx => by
            obtain ⟨hb, hle⟩ := h3 x hx
            obtain ⟨x0, x1⟩ := hg i hi x hx
            have hn := (h.im x.toNat (by omega)).1 hb
            obtain ⟨i1, i2⟩ := ih (mv.getD x.toNat 0).toNat (by omega) x.toNat (by omega) (by omega)
            exact ⟨i1, by omega⟩
          have hin := h'.cot hi' ho fun x hx => (hall x hx).1
          refine ⟨hin, ?_⟩
          by_cases hz' : 0 < mv'.getD i 0
          · obtain ⟨⟨x, hx, hb, e⟩, -⟩ := h'.ot i hi' ho hz'
            have := (hall x hx).2
            omega
          · omega
  intro i hi hb
  have := (h.im i hi).1 hb
  exact key (mv.getD i 0).toNat i hi (by omega)

theorem Attr.idem (h : Attr g p t inn mv) {inn' : List Bool} {mv' : List Int} (h' : Attr g p inn inn' mv') (hg : ∀ i, i < t.length → ∀ x ∈ g.succ.getD i [], 0 ≤ x ∧ x < t.length) : inn = inn' := by
  refine ext_getD h'.li.symm fun j hj => ?_
  have hl := h.li
  cases hb : inn.getD j false
  · cases hb' : inn'.getD j false
    · rfl
    · have := h'.least (by rw [hl]; exact hg) (fun i => inn.getD i false = true) (fun i _ x => x) (fun i hi ho ⟨x, hx, hc⟩ => h.cow (by omega) ho hx hc) (fun i hi ho hc => h.cot (by omega) ho hc) j hj hb'
      rw [hb] at this; cases this
  · exact (h'.mem j hj hb).symm

end

/-! Sets: unions, parts. -/

def orK (a b : List Bool) (k : Nat) : List Bool := (List.range k).map fun i => a.getD i false || b.getD i false
theorem orK_len (a b : List Bool) (k : Nat) : (orK a b k).length = k := by simp [orK]
theorem orK_get (a b : List Bool) (k i : Nat) (h : i < k) : (orK a b k).getD i false = (a.getD i false || b.getD i false) := by simp [orK, h]
theorem orK_succ (a b : List Bool) (k : Nat) : orK a b (k + 1) = orK a b k ++ [a.getD k false || b.getD k false] := by simp [orK, List.range_succ]

theorem partB_iff {a b : List Bool} (hl : a.length = b.length) : partB a b = true ↔ ∀ i, i < a.length → a.getD i false = true → b.getD i false = true := by
  simp only [partB, Bool.and_eq_true, List.all_eq_true, List.mem_range, Bool.or_eq_true, Bool.not_eq_true', decide_eq_true_eq, hl, and_true]
  constructor
  · intro h i hi ha
    rcases h i hi with h | h
    · rw [ha] at h; cases h
    · exact h
  · intro h i hi
    cases ha : a.getD i false
    · exact .inl rfl
    · exact .inr (h i hi ha)

/-- A set is a trap for p: what that says of its positions. -/
theorem trapB_iff {g : Gm} {p : Int} {s : List Bool} (F : Fits g p s.length) : trapB g p s = true ↔
    ∀ i, i < s.length → s.getD i false = true → (g.owner.getD i 0 ≠ p → ∃ x ∈ g.succ.getD i [], atB s x = true) ∧ (g.owner.getD i 0 = p → ∀ x ∈ g.succ.getD i [], atB s x = true) := by
  simp only [trapB, List.all_eq_true, List.mem_range, Bool.or_eq_true, Bool.not_eq_true']
  refine forall_congr' fun i => forall_congr' fun hi => ?_
  have ho := F.ow i hi
  have hp := F.pl
  cases hs : s.getD i false
  · simp
  · simp only [Bool.true_eq_false, false_or, forall_const]
    unfold canB
    by_cases e : g.owner.getD i 0 = p
    · rw [if_neg (by omega), List.all_eq_true]
      exact ⟨fun h => ⟨fun h' => absurd e h', fun _ => h⟩, fun h => h.2 e⟩
    · rw [if_pos (by omega), List.any_eq_true]
      exact ⟨fun h => ⟨fun _ => h, fun h' => absurd h' e⟩, fun h => h.1 e⟩

theorem Fits.other {g : Gm} {p : Int} {n : Nat} (F : Fits g p n) : Fits g (1 - p) n := { F with pl := by have := F.pl; omega }

section
variable {g : Gm} {p : Int} {n : Nat}

theorem Fits.attr (F : Fits g p n) (hS : ∀ i, (g.succ.getD i []).length ≤ 1000) {t : List Bool} (ht : t.length = n) : Attr g p t (attQ g p t).inn (attQ g p t).mv := by
  subst ht
  exact attQ_attr g p t F.rg F.ne hS

theorem atB_not {l : List Bool} {x : Int} (h0 : 0 ≤ x) (h1 : x < l.length) : atB (notL l) x = !atB l x := by
  unfold atB; exact notL_get l x.toNat (by omega)

theorem notL_len (l : List Bool) : (notL l).length = l.length := by simp [notL]

/-- What is outside an attractor is a trap. -/
theorem Fits.trap (F : Fits g p n) (hS : ∀ i, (g.succ.getD i []).length ≤ 1000) {t : List Bool} (ht : t.length = n) : trapB g p (notL (attQ g p t).inn) = true := by
  have A := F.attr hS ht
  have hl : (notL (attQ g p t).inn).length = n := by rw [notL_len, A.li, ht]
  rw [trapB_iff (by rw [hl]; exact F)]
  have hil : (attQ g p t).inn.length = n := by rw [A.li, ht]
  intro i hi hs
  rw [hl] at hi
  rw [notL_get _ _ (by omega)] at hs
  have hf : (attQ g p t).inn.getD i false = false := by simpa using hs
  have hat : ∀ x ∈ g.succ.getD i [], atB (attQ g p t).inn x = false → atB (notL (attQ g p t).inn) x = true := fun x hx hb => by
    have := F.rg i hi x hx
    rw [atB_not this.1 (by omega), hb]; rfl
  refine ⟨fun ho => ?_, fun ho x hx => hat x hx (A.cw i (by omega) ho hf x hx)⟩
  obtain ⟨x, hx, hb⟩ := A.ct i (by omega) ho hf
  exact ⟨x, hx, hat x hx hb⟩

theorem notL_notL (l : List Bool) : notL (notL l) = l := by
  simp [notL, Function.comp_def]

/-- A trap for p within s lies outside p's attractor of the complement of s. -/
theorem Fits.trap_out (F : Fits g p n) (hS : ∀ i, (g.succ.getD i []).length ≤ 1000) {c s : List Bool} (hc : c.length = n) (hs : s.length = n) (hT : trapB g p c = true) (hsub : ∀ i, i < n → c.getD i false = true → s.getD i false = true) :
    ∀ i, i < n → c.getD i false = true → (notL (attQ g p (notL s)).inn).getD i false = true := by
  have A := F.attr hS (t := notL s) (by rw [notL_len, hs])
  have hln : (notL s).length = n := by rw [notL_len, hs]
  have hil : (attQ g p (notL s)).inn.length = n := by rw [A.li, hln]
  rw [trapB_iff (by rw [hc]; exact F)] at hT
  intro i hi hci
  rw [notL_get _ _ (by omega)]
  cases hb : (attQ g p (notL s)).inn.getD i false
  · rfl
  · have := A.least (by rw [hln]; exact F.rg) (fun i => c.getD i false = false) (fun j hj h0 => ?_) (fun j hj ho ⟨x, hx, h0⟩ => ?_) (fun j hj ho h0 => ?_) i (by omega) hb
    · rw [hci] at this; cases this
    · cases hcj : c.getD j false
      · rfl
      · rw [notL_get _ _ (by omega), hsub j (by omega) hcj] at h0; cases h0
    · cases hcj : c.getD j false
      · rfl
      · have h1 := (hT j (by omega) hcj).2 ho x hx
        unfold atB at h1
        rw [h0] at h1; cases h1
    · cases hcj : c.getD j false
      · rfl
      · obtain ⟨x, hx, h1⟩ := (hT j (by omega) hcj).1 ho
        have h2 := h0 x hx
        unfold atB at h1
        rw [h2] at h1; cases h1

end
end Go.Proofs.Ytjhafakkadnfmaa
