/- What the reference's region computes, in plain lists. -/
import Derived.Test.YtjhafakkadnfmaaSo20
import Derived.Test.YtjhafakkadnfmaaSo10
namespace Go.Proofs.Ytjhafakkadnfmaa

def withoutL (a b : List Bool) : List Bool := (List.range a.length).map fun i => a.getD i false && !b.getD i false
def orL (a b : List Bool) (n : Nat) : List Bool := (List.range n).map fun i => a.getD i false || b.getD i false
def leastS (g : Gm) (s : List Bool) (n : Nat) : Int := (List.range n).foldl (fun m i => if s.getD i false then min m (g.prio.getD i 0) else m) 30001
def targetS (g : Gm) (s : List Bool) (k : Int) (n : Nat) : List Bool := (List.range n).map fun i => s.getD i false && decide (g.prio.getD i 0 = k)

/-- The positions from which the controller wins. -/
def regF (g : Gm) (n : Nat) : Nat → List Bool → List Bool
  | 0, _ => List.replicate n false
  | f + 1, s =>
    if s.any id then
      let k := leastS g s n
      let p := k % 2
      let rest := withoutL s (raRounds g p s n (targetS g s k n) n)
      let won := regF g n f rest
      let lost := if p = 0 then withoutL rest won else won
      if lost.any id then
        let away := raRounds g (1 - p) s n lost n
        let out := regF g n f (withoutL s away)
        if p = 1 then orL out away n else out
      else if p = 0 then s else List.replicate n false
    else List.replicate n false

section
variable {g : Gm} {n : Nat} {s : List Bool}

theorem withoutL_len (a b : List Bool) : (withoutL a b).length = a.length := by simp [withoutL]
theorem withoutL_get (a b : List Bool) (i : Nat) : (withoutL a b).getD i false = true ↔ a.getD i false = true ∧ ¬ b.getD i false = true := by
  by_cases h : i < a.length
  · simp [withoutL, List.getD, h]
  · have h1 : a.getD i false = false := by simp [List.getD, List.getElem?_eq_none (by omega : a.length ≤ i)]
    have h2 : (withoutL a b).getD i false = false := by simp [List.getD, List.getElem?_eq_none (by rw [withoutL_len]; omega : (withoutL a b).length ≤ i)]
    rw [h1, h2]; simp
theorem orL_len (a b : List Bool) (n : Nat) : (orL a b n).length = n := by simp [orL]
theorem orL_get (a b : List Bool) (n i : Nat) (h : i < n) : (orL a b n).getD i false = (a.getD i false || b.getD i false) := by simp [orL, h]
theorem targetS_len (k : Int) : (targetS g s k n).length = n := by simp [targetS]
theorem targetS_get (k : Int) (i : Nat) : (targetS g s k n).getD i false = true ↔ i < n ∧ s.getD i false = true ∧ g.prio.getD i 0 = k := by
  by_cases h : i < n
  · simp [targetS, List.getD, h]
  · have h2 : (targetS g s k n).getD i false = false := by simp [List.getD, List.getElem?_eq_none (by rw [targetS_len]; omega : (targetS g s k n).length ≤ i)]
    rw [h2]
    exact ⟨fun e => (by cases e), fun e => absurd e.1 h⟩
theorem leastS_succ (g : Gm) (s : List Bool) (k : Nat) : leastS g s (k + 1) = if s.getD k false then min (leastS g s k) (g.prio.getD k 0) else leastS g s k := by
  simp [leastS, List.range_succ]
theorem leastS_le (g : Gm) (s : List Bool) (k : Nat) : ∀ i, i < k → s.getD i false = true → leastS g s k ≤ g.prio.getD i 0 := by
  induction k with
  | zero => intro i hi; omega
  | succ k ih =>
    intro i hi hs
    rw [leastS_succ]
    by_cases e : i = k
    · subst e; rw [if_pos hs]; omega
    · have := ih i (by omega) hs
      split <;> omega
theorem leastS_is (g : Gm) (s : List Bool) (k : Nat) : leastS g s k = 30001 ∨ ∃ i, i < k ∧ s.getD i false = true ∧ leastS g s k = g.prio.getD i 0 := by
  induction k with
  | zero => exact .inl rfl
  | succ k ih =>
    rw [leastS_succ]
    by_cases hs : s.getD k false = true
    · rw [if_pos hs]
      rcases (by omega : min (leastS g s k) (g.prio.getD k 0) = g.prio.getD k 0 ∨ min (leastS g s k) (g.prio.getD k 0) = leastS g s k) with h | h
      · exact .inr ⟨k, by omega, hs, h⟩
      · rw [h]
        rcases ih with h' | ⟨i, h1, h2, h3⟩
        · exact .inl h'
        · exact .inr ⟨i, by omega, h2, h3⟩
    · rw [if_neg hs]
      rcases ih with h' | ⟨i, h1, h2, h3⟩
      · exact .inl h'
      · exact .inr ⟨i, by omega, h2, h3⟩
theorem any_iff (l : List Bool) : l.any id = true ↔ ∃ i, l.getD i false = true := by
  rw [List.any_eq_true]
  constructor
  · rintro ⟨x, hx, h⟩
    obtain ⟨i, hi, rfl⟩ := List.getElem_of_mem hx
    exact ⟨i, by rw [getD_lt _ _ _ hi]; exact h⟩
  · rintro ⟨i, h⟩
    have hi : i < l.length := set_lt h
    exact ⟨l[i], List.getElem_mem hi, by rw [getD_lt _ _ _ hi] at h; exact h⟩
theorem count_less {a b : List Bool} (hl : a.length = b.length) (hsub : ∀ i, a.getD i false = true → b.getD i false = true) {i : Nat} (hb : b.getD i false = true) (ha : ¬ a.getD i false = true) : a.count true < b.count true := by
  induction a generalizing b i with
  | nil => have := set_lt hb; simp at hl; omega
  | cons x a ih =>
    cases b with
    | nil => simp at hl
    | cons y b =>
      have hl' : a.length = b.length := by simpa using hl
      have hs' : ∀ j, a.getD j false = true → b.getD j false = true := fun j hj => by have := hsub (j + 1); simp only [List.getD_cons_succ] at this; exact this hj
      have h0 := hsub 0
      simp only [List.getD_cons_zero] at h0
      have hle : a.count true ≤ b.count true := by
        clear ih ha hb hsub hl
        induction a generalizing b with
        | nil => simp
        | cons x a iha =>
          cases b with
          | nil => simp at hl'
          | cons y b =>
            have h1 := iha (b := b) (by simpa using hl') (fun j hj => by have := hs' (j + 1); simp only [List.getD_cons_succ] at this; exact this hj)
            have h2 := hs' 0
            simp only [List.getD_cons_zero] at h2
            rw [List.count_cons, List.count_cons]
            cases x <;> cases y <;> simp at h2 ⊢ <;> omega
      rw [List.count_cons, List.count_cons]
      cases i with
      | zero =>
        simp only [List.getD_cons_zero] at ha hb
        subst hb
        cases x
        · simp; omega
        · exact absurd rfl ha
      | succ i =>
        simp only [List.getD_cons_succ] at ha hb
        have := ih hl' hs' hb ha
        cases x <;> cases y <;> simp at h0 ⊢ <;> omega

/-- The winners by the reference. -/
def winF (l : List Bool) (i : Nat) : Int := if l.getD i false then 0 else 1

theorem regF_sol (hrg : ∀ i, i < n → ∀ x ∈ g.succ.getD i [], ∃ v : Nat, x = v ∧ v < n) (how : ∀ i, i < n → own g i = 0 ∨ own g i = 1) (hpr : ∀ i, i < n → 0 ≤ g.prio.getD i 0 ∧ g.prio.getD i 0 ≤ 30000) :
    ∀ (f : Nat) (s : List Bool), s.length = n → s.count true < f → Total g (setOf s) → (regF g n f s).length = n ∧ (∀ i, (regF g n f s).getD i false = true → s.getD i false = true) ∧ Sol g (setOf s) (winF (regF g n f s)) := by
  intro f
  induction f with
  | zero => intro s _ h; omega
  | succ f ih =>
    intro s hs hc hT
    have hlt : ∀ i, setOf s i → i < n := fun i hi => by have := set_lt hi; omega
    have hoS : ∀ i, setOf s i → own g i = 0 ∨ own g i = 1 := fun i hi => how i (hlt i hi)
    rw [regF]
    by_cases hany : s.any id = true
    · rw [if_pos hany]
      obtain ⟨i0, hi0⟩ := (any_iff s).1 hany
      have hi0n := hlt i0 hi0
      generalize hk : leastS g s n = k
      have hkle : ∀ i, setOf s i → k ≤ pri g i := fun i hi => by rw [← hk]; exact leastS_le g s n i (hlt i hi) hi
      obtain ⟨i1, hi1, hs1, hk1⟩ : ∃ i, i < n ∧ s.getD i false = true ∧ k = g.prio.getD i 0 := by
        rcases leastS_is g s n with h | h
        · have h1 := hkle i0 hi0
          have h2 := (hpr i0 hi0n).2
          unfold pri at h1
          omega
        · rw [hk] at h; exact h
      have hk0 : 0 ≤ k := by rw [hk1]; exact (hpr i1 hi1).1
      have hp : k % 2 = 0 ∨ k % 2 = 1 := by omega
      have hA := raRounds_att (g := g) (p := k % 2) (s := s) (n := n) (t := targetS g s k n) (targetS_len k).symm hs (fun i hi => ((targetS_get k i).1 hi).2.1) hrg
      generalize hAl : raRounds g (k % 2) s n (targetS g s k n) n = A at hA
      have hrest : ∀ i, setOf (withoutL s A) i ↔ setOf s i ∧ ¬ A.getD i false = true := fun i => withoutL_get s A i
      have hRlen : (withoutL s A).length = n := by rw [withoutL_len, hs]
      have hRT : Total g (setOf (withoutL s A)) := by
        have e : setOf (withoutL s A) = fun i => setOf s i ∧ ¬ A.getD i false = true := funext fun i => propext (hrest i)
        rw [e]; exact hA.total hT
      have hi1A : A.getD i1 false = true := hA.mem i1 ((targetS_get k i1).2 ⟨hi1, hs1, hk1.symm⟩)
      have hRc : (withoutL s A).count true < s.count true := count_less (by rw [hRlen, hs]) (fun i hi => ((hrest i).1 hi).1) hs1 (fun h => ((hrest i1).1 h).2 hi1A)
      obtain ⟨w1, w3, w2⟩ := ih (withoutL s A) hRlen (by omega) hRT
      generalize hW : regF g n f (withoutL s A) = won at w1 w2 w3
      have hsolR : Sol g (fun i => setOf s i ∧ ¬ A.getD i false = true) (winF won) := w2.congrS hrest
      have low : ∀ t, (targetS g s k n).getD t false = true → ∀ v, setOf s v → Lost (k % 2) (pri g v) → pri g t < pri g v := fun t ht v hv hl => by
        have h1 := ((targetS_get k t).1 ht).2.2
        have h2 := hkle v hv
        unfold pri Lost at *
        rw [h1]
        have : k ≠ g.prio.getD v 0 := fun e => hl (by rw [e])
        omega
      simp only [hAl, hW]
      generalize hL : (if k % 2 = 0 then withoutL (withoutL s A) won else won) = lost
      have hLlen : lost.length = n := by rw [← hL]; split <;> simp [withoutL_len, hs, w1]
      have hLost : ∀ i, (setOf s i ∧ ¬ A.getD i false = true) → (lost.getD i false = true ↔ winF won i = 1 - k % 2) := fun i hi => by
        rw [← hL]
        unfold winF
        rcases hp with e | e
        · rw [e]
          simp only [if_true]
          rw [withoutL_get, withoutL_get]
          constructor
          · intro h; rw [if_neg h.2]; rfl
          · intro h; exact ⟨hi, fun hh => by rw [if_pos hh] at h; cases h⟩
        · rw [e]
          rw [if_neg (by omega)]
          constructor
          · intro h; rw [if_pos h]; rfl
          · intro h
            cases hh : won.getD i false
            · rw [hh] at h; cases h
            · rfl
      have hLsub : ∀ i, lost.getD i false = true → setOf s i ∧ ¬ A.getD i false = true := fun i hi => by
        rw [← hL] at hi
        split at hi
        · exact (withoutL_get s A i).1 ((withoutL_get _ _ i).1 hi).1
        · exact (hrest i).1 (w3 i hi)
      have hLiff : ∀ i, lost.getD i false = true ↔ (setOf s i ∧ ¬ A.getD i false = true) ∧ winF won i = 1 - k % 2 := fun i =>
        ⟨fun h => ⟨hLsub i h, (hLost i (hLsub i h)).1 h⟩, fun h => (hLost i h.1).2 h.2⟩
      by_cases hla : lost.any id = true
      · rw [if_pos hla]
        obtain ⟨i2, hi2⟩ := (any_iff lost).1 hla
        have hq : 1 - k % 2 = 0 ∨ 1 - k % 2 = 1 := by omega
        have hA2 := raRounds_att (g := g) (p := 1 - k % 2) (s := s) (n := n) (t := lost) hLlen.symm hs (fun i hi => (hLsub i hi).1) hrg
        generalize hA2l : raRounds g (1 - k % 2) s n lost n = away at hA2
        have hawl : away.length = n := by rw [← hA2l, raRounds_len, hLlen]
        have hD := dom_lost (T := fun i => (targetS g s k n).getD i false = true) hA hq (by omega) hp hsolR hLiff hA2 hoS
        have hrest2 : ∀ i, setOf (withoutL s away) i ↔ setOf s i ∧ ¬ away.getD i false = true := fun i => withoutL_get s away i
        have hT2 : Total g (setOf (withoutL s away)) := by
          have e : setOf (withoutL s away) = fun i => setOf s i ∧ ¬ away.getD i false = true := funext fun i => propext (hrest2 i)
          rw [e]; exact hA2.total hT
        have hi2a : away.getD i2 false = true := hA2.mem i2 hi2
        have hc2 : (withoutL s away).count true < s.count true := count_less (by rw [withoutL_len]) (fun i hi => ((hrest2 i).1 hi).1) (hA2.sub i2 hi2a) (fun h => ((hrest2 i2).1 h).2 hi2a)
        obtain ⟨o1, o2, o3⟩ := ih (withoutL s away) (by rw [withoutL_len, hs]) (by omega) hT2
        generalize regF g n f (withoutL s away) = out at o1 o2 o3
        have osub : ∀ i, out.getD i false = true → s.getD i false = true ∧ ¬ away.getD i false = true := fun i hi => (hrest2 i).1 (o2 i hi)
        rcases hp with e | e
        · rw [e] at hD hA2
          rw [if_neg (by omega)]
          refine ⟨o1, fun i hi => (osub i hi).1, Sol.step (q := 1) hD (.inr rfl) (fun i hi hn ho j he => hA2.mine i hi hn ho j he) (o3.congrS hrest2) (fun i hi => ?_) hoS⟩
          unfold winF
          rw [if_neg (fun h => (osub i h).2 hi)]
        · rw [e] at hD hA2
          rw [if_pos (by omega)]
          refine ⟨orL_len _ _ _, fun i hi => ?_, Sol.step (q := 0) hD (.inl rfl) (fun i hi hn ho j he => hA2.mine i hi hn ho j he) ((o3.congrS hrest2).congr fun i hi => ?_) (fun i hi => ?_) hoS⟩
          · have hin : i < n := by have := set_lt hi; rw [orL_len] at this; exact this
            rw [orL_get _ _ _ _ hin, Bool.or_eq_true] at hi
            rcases hi with h | h
            · exact (osub i h).1
            · exact hA2.sub i h
          · have hin := hlt i hi.1
            unfold winF
            rw [orL_get _ _ _ _ hin]
            have : away.getD i false = false := by rw [← Bool.not_eq_true]; exact hi.2
            rw [this, Bool.or_false]
          · have hin := hlt i (hA2.sub i hi)
            unfold winF
            rw [orL_get _ _ _ _ hin]
            have : away.getD i false = true := hi
            rw [this]; simp
      · rw [if_neg hla]
        have hno : ∀ i, setOf s i → ¬ A.getD i false = true → winF won i = k % 2 := fun i hi hn => by
          have h1 : ¬ lost.getD i false = true := fun h => hla ((any_iff lost).2 ⟨i, h⟩)
          rw [hLost i ⟨hi, hn⟩] at h1
          have := hsolR.two i ⟨hi, hn⟩
          omega
        have hD := dom_all hA hp low hT hsolR hno
        rcases hp with e | e
        · rw [e] at hD
          rw [if_pos e]
          refine ⟨hs, fun i hi => hi, Sol.all hD (.inl rfl) fun i hi => ?_⟩
          unfold winF
          exact if_pos hi
        · rw [e] at hD
          rw [if_neg (by omega)]
          refine ⟨by simp, fun i hi => ?_, Sol.all hD (.inr rfl) fun i hi => ?_⟩
          · have := set_lt (al := List.replicate n false) hi
            simp at this
            simp [List.getD, this] at hi
          · have := hlt i hi
            unfold winF
            simp [List.getD, this]
    · rw [if_neg hany]
      refine ⟨by simp, fun i hi => ?_, Sol.empty fun i hi => hany ((any_iff s).2 ⟨i, hi⟩)⟩
      have := set_lt (al := List.replicate n false) hi
      simp at this
      simp [List.getD, this] at hi

end
end Go.Proofs.Ytjhafakkadnfmaa
