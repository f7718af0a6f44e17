/- What the reference's region computes. -/
import Derived.Test.YtjhafakkadnfmaaSo31
import Derived.Test.YtjhafakkadnfmaaRegSt
namespace Go.Proofs.Ytjhafakkadnfmaa
open Go.RowKit

def regA (g : Gm) (n : Nat) (s : List Bool) : List Bool := raRounds g (leastS g s n % 2) s n (targetS g s (leastS g s n) n) n
def regLost (g : Gm) (n f : Nat) (s : List Bool) : List Bool := if leastS g s n % 2 = 0 then withoutL (withoutL s (regA g n s)) (regF g n f (withoutL s (regA g n s))) else regF g n f (withoutL s (regA g n s))
def regAway (g : Gm) (n f : Nat) (s : List Bool) : List Bool := raRounds g (1 - leastS g s n % 2) s n (regLost g n f s) n

theorem regF_step (g : Gm) (n f : Nat) (s : List Bool) : regF g n (f + 1) s = if s.any id then (if (regLost g n f s).any id then (if leastS g s n % 2 = 1 then orL (regF g n f (withoutL s (regAway g n f s))) (regAway g n f s) n else regF g n f (withoutL s (regAway g n f s))) else if leastS g s n % 2 = 0 then s else List.replicate n false) else List.replicate n false := rfl

structure RegStep (g : Gm) (n f : Nat) (s : List Bool) : Prop where
  k : 0 ≤ leastS g s n ∧ leastS g s n ≤ 30001
  l1 : (withoutL s (regA g n s)).length = n
  c1 : (withoutL s (regA g n s)).count true < s.count true
  t1 : Total g (setOf (withoutL s (regA g n s)))
  lw : (regF g n f (withoutL s (regA g n s))).length = n
  ll : (regLost g n f s).length = n
  la : (regAway g n f s).length = n
  c2 : (regLost g n f s).any id = true → (withoutL s (regAway g n f s)).count true < s.count true
  t2 : (regLost g n f s).any id = true → Total g (setOf (withoutL s (regAway g n f s)))
  lo : (regLost g n f s).any id = true → (regF g n f (withoutL s (regAway g n f s))).length = n

section
variable {g : Gm} {n : Nat} {s : List Bool}

theorem reg_step (hrg : ∀ i, i < n → ∀ x ∈ g.succ.getD i [], ∃ v : Nat, x = v ∧ v < n) (how : ∀ i, i < n → own g i = 0 ∨ own g i = 1) (hpr : ∀ i, i < n → 0 ≤ g.prio.getD i 0 ∧ g.prio.getD i 0 ≤ 30000)
    (f : Nat) (s : List Bool) (hs : s.length = n) (hc : s.count true < f + 1) (hT : Total g (setOf s)) (hany : s.any id = true) : RegStep g n f s := by
  have hlt : ∀ i, setOf s i → i < n := fun i hi => by have := set_lt hi; omega
  obtain ⟨i0, hi0⟩ := (any_iff s).1 hany
  have hi0n := hlt i0 hi0
  have hkle : ∀ i, setOf s i → leastS g s n ≤ pri g i := fun i hi => leastS_le g s n i (hlt i hi) hi
  obtain ⟨i1, hi1, hs1, hk1⟩ : ∃ i, i < n ∧ s.getD i false = true ∧ leastS g s n = g.prio.getD i 0 := by
    rcases leastS_is g s n with h | h
    · have h1 := hkle i0 hi0
      have h2 := (hpr i0 hi0n).2
      unfold pri at h1
      omega
    · exact h
  have hb1 := hpr i1 hi1
  have hA := raRounds_att (g := g) (p := leastS g s n % 2) (s := s) (n := n) (t := targetS g s (leastS g s n) n) (targetS_len _).symm hs (fun i hi => ((targetS_get _ i).1 hi).2.1) hrg
  have hrest : ∀ i, setOf (withoutL s (regA g n s)) i ↔ setOf s i ∧ ¬ (regA g n s).getD i false = true := fun i => withoutL_get s _ i
  have hRlen : (withoutL s (regA g n s)).length = n := by rw [withoutL_len, hs]
  have hRT : Total g (setOf (withoutL s (regA g n s))) := by
    have e : setOf (withoutL s (regA g n s)) = fun i => setOf s i ∧ ¬ (regA g n s).getD i false = true := funext fun i => propext (hrest i)
    rw [e]; exact hA.total hT
  have hi1A : (regA g n s).getD i1 false = true := hA.mem i1 ((targetS_get _ i1).2 ⟨hi1, hs1, hk1.symm⟩)
  have hRc : (withoutL s (regA g n s)).count true < s.count true := count_less (by rw [hRlen, hs]) (fun i hi => ((hrest i).1 hi).1) hs1 (fun h => ((hrest i1).1 h).2 hi1A)
  obtain ⟨w1, w3, -⟩ := regF_sol hrg how hpr f (withoutL s (regA g n s)) hRlen (by omega) hRT
  have hLlen : (regLost g n f s).length = n := by unfold regLost; split <;> simp [withoutL_len, hs, w1]
  have hLsub : ∀ i, (regLost g n f s).getD i false = true → setOf s i := fun i hi => by
    unfold regLost at hi
    split at hi
    · exact ((withoutL_get s _ i).1 ((withoutL_get _ _ i).1 hi).1).1
    · exact ((hrest i).1 (w3 i hi)).1
  have hal : (regAway g n f s).length = n := by unfold regAway; rw [raRounds_len, hLlen]
  have hA2 := raRounds_att (g := g) (p := 1 - leastS g s n % 2) (s := s) (n := n) (t := regLost g n f s) hLlen.symm hs (fun i hi => hLsub i hi) hrg
  have hrest2 : ∀ i, setOf (withoutL s (regAway g n f s)) i ↔ setOf s i ∧ ¬ (regAway g n f s).getD i false = true := fun i => withoutL_get s _ i
  have hT2 : Total g (setOf (withoutL s (regAway g n f s))) := by
    have e : setOf (withoutL s (regAway g n f s)) = fun i => setOf s i ∧ ¬ (regAway g n f s).getD i false = true := funext fun i => propext (hrest2 i)
    rw [e]; exact hA2.total hT
  have hc2 : (regLost g n f s).any id = true → (withoutL s (regAway g n f s)).count true < s.count true := fun hla => by
    obtain ⟨i2, hi2⟩ := (any_iff _).1 hla
    have hi2a : (regAway g n f s).getD i2 false = true := hA2.mem i2 hi2
    exact count_less (by rw [withoutL_len]) (fun i hi => ((hrest2 i).1 hi).1) (hA2.sub i2 hi2a) (fun h => ((hrest2 i2).1 h).2 hi2a)
  exact ⟨by omega, hRlen, hRc, hRT, w1, hLlen, hal, hc2, fun _ => hT2, fun hla => (regF_sol hrg how hpr f _ (by rw [withoutL_len, hs]) (by have := hc2 hla; omega) hT2).1⟩
end

theorem targetS_succ (g : Gm) (s : List Bool) (k : Int) (j : Nat) : targetS g s k (j + 1) = targetS g s k j ++ [s.getD j false && decide (g.prio.getD j 0 = k)] := by simp [targetS, List.range_succ]

/-- Two sets joined up to a place. -/
def orS (a b : List Bool) (j : Nat) : List Bool := (List.range a.length).map fun i => if i < j then a.getD i false || b.getD i false else a.getD i false
theorem orS_len (a b : List Bool) (j : Nat) : (orS a b j).length = a.length := by simp [orS]
theorem orS_zero (a b : List Bool) : orS a b 0 = a := by
  apply List.ext_getElem (by simp [orS])
  intro i h1 h2
  simp [orS, List.getD, h2]
theorem orS_all (a b : List Bool) : orS a b a.length = orL a b a.length := by
  apply List.ext_getElem (by simp [orS, orL])
  intro i h1 h2
  have : i < a.length := by simpa [orS] using h1
  simp [orS, orL, this]
theorem orS_at (a b : List Bool) (j : Nat) (h : j < a.length) : (orS a b j).getD j false = a.getD j false := by simp [orS, List.getD, h]
theorem orS_succ (a b : List Bool) (j : Nat) (_ : j < a.length) : orS a b (j + 1) = (orS a b j).set j (a.getD j false || b.getD j false) := by
  apply List.ext_getElem (by simp [orS])
  intro i h1 h2
  rw [List.getElem_set]
  have hi : i < a.length := by simpa [orS] using h1
  simp only [orS, List.getElem_map, List.getElem_range]
  by_cases e : j = i
  · subst e; simp
  · rw [if_neg e]
    by_cases h3 : i < j
    · rw [if_pos (by omega), if_pos h3]
    · rw [if_neg (by omega), if_neg h3]

/-- What region leaves: a set of its own, or the one that it was given. -/
def RegOut (B : Nat) (l : List Bool) (w : World) (e : Ending) (w' : World) : Prop := ∃ v, e = .returned v ∧ OB w' B v l ∧ Below w.heap.size w w'

end Go.Proofs.Ytjhafakkadnfmaa
