/- The search for components that can reach each other, in one go (numbers, a stack, least numbers that are reached), in plain terms. -/
import Derived.Test.YtdkpdpcecjcmcaaBase
namespace Go.Proofs.Ytdkpdpcecjcmcaa

/-- Reached by moves, none or more. -/
inductive Rch (E : Nat → Nat → Prop) : Nat → Nat → Prop
  | refl (a : Nat) : Rch E a a
  | step {a b c : Nat} : Rch E a b → E b c → Rch E a c
theorem Rch.trans {E : Nat → Nat → Prop} {a b c : Nat} (h1 : Rch E a b) (h2 : Rch E b c) : Rch E a c := by
  induction h2 with
  | refl => exact h1
  | step _ e ih => exact ih.step e
theorem Rch.one {E : Nat → Nat → Prop} {a b : Nat} (h : E a b) : Rch E a b := (Rch.refl a).step h
theorem Rch.closed {E : Nat → Nat → Prop} {A : Nat → Prop} (hA : ∀ x y, A x → E x y → A y) {a b : Nat} (h : Rch E a b) (ha : A a) : A b := by
  induction h with
  | refl => exact ha
  | step _ e ih => exact hA _ _ ih e

/-- The state of the search: numbers in the order of the first visit (0: none), the least numbers, the parts (0: none yet), the stack, how many numbers. -/
structure Tj where
  num : Nat → Nat
  low : Nat → Nat
  prt : Nat → Nat
  stk : List Nat
  cnt : Nat

/-- What holds throughout; G: the nodes whose visits are open. -/
structure TInv (E : Nat → Nat → Prop) (t : Tj) (G : List Nat) : Prop where
  nd : t.stk.Nodup
  st : ∀ v, v ∈ t.stk ↔ t.num v ≠ 0 ∧ t.prt v = 0
  so : t.stk.Pairwise fun x y => t.num x < t.num y
  le : ∀ v, t.num v ≤ t.cnt
  inj : ∀ u v, t.num u ≠ 0 → t.num u = t.num v → u = v
  pn : ∀ v, t.prt v ≠ 0 → t.num v ≠ 0 ∧ ∃ r, t.prt r = t.prt v ∧ t.num r = t.prt v
  gs : ∀ g ∈ G, g ∈ t.stk
  bw : ∀ v u, t.num v ≠ 0 → v ∉ G → E v u → t.num u ≠ 0
  fc : ∀ v u, t.prt v ≠ 0 → E v u → t.prt u ≠ 0
  up : ∀ x ∈ t.stk, ∀ y ∈ t.stk, t.num x ≤ t.num y → Rch E x y
  dn : ∀ y ∈ t.stk, ∃ g ∈ G, t.num g ≤ t.num y ∧ Rch E y g
  lw : ∀ v ∈ t.stk, t.low v ≤ t.num v ∧ ∃ z ∈ t.stk, t.num z = t.low v ∧ Rch E v z
  eq : ∀ u v, t.prt u ≠ 0 → t.prt v ≠ 0 → (t.prt u = t.prt v ↔ Rch E u v ∧ Rch E v u)

/-- A visit goes on from t to t'. -/
structure TExt (t t' : Tj) : Prop where
  nu : ∀ v, t.num v ≠ 0 → t'.num v = t.num v
  pr : ∀ v, t.prt v ≠ 0 → t'.prt v = t.prt v
  sk : ∃ r, t'.stk = t.stk ++ r
  lo : ∀ v ∈ t.stk, t'.low v = t.low v
theorem TExt.refl (t : Tj) : TExt t t := ⟨fun _ _ => rfl, fun _ _ => rfl, ⟨[], by simp⟩, fun _ _ => rfl⟩
theorem TExt.trans {t t' t'' : Tj} (h : TExt t t') (k : TExt t' t'') : TExt t t'' := by
  obtain ⟨r, hr⟩ := h.sk
  obtain ⟨s, hs⟩ := k.sk
  refine ⟨fun v hv => ?_, fun v hv => ?_, ⟨r ++ s, by rw [hs, hr, List.append_assoc]⟩, fun v hv => ?_⟩
  · rw [k.nu v (by rw [h.nu v hv]; exact hv), h.nu v hv]
  · rw [k.pr v (by rw [h.pr v hv]; exact hv), h.pr v hv]
  · rw [k.lo v (by rw [hr]; exact List.mem_append_left _ hv), h.lo v hv]

def upN (f : Nat → Nat) (i x : Nat) : Nat → Nat := fun j => if j = i then x else f j
theorem upN_same (f : Nat → Nat) (i x : Nat) : upN f i x i = x := if_pos rfl
theorem upN_ne (f : Nat → Nat) (i x j : Nat) (h : j ≠ i) : upN f i x j = f j := if_neg h

/-- A visit is opened. -/
def Tj.openV (t : Tj) (s : Nat) : Tj := ⟨upN t.num s (t.cnt + 1), upN t.low s (t.cnt + 1), t.prt, t.stk ++ [s], t.cnt + 1⟩
theorem TInv.openV {E : Nat → Nat → Prop} {t : Tj} {G : List Nat} (h : TInv E t G) {s : Nat} (hs : t.num s = 0) (hg : ∀ g ∈ G, Rch E g s) : TInv E (t.openV s) (G ++ [s]) := by
  have hns : s ∉ t.stk := fun hm => ((h.st s).1 hm).1 hs
  have hp0 : t.prt s = 0 := by
    cases hp : t.prt s with
    | zero => rfl
    | succ n => exact absurd hs (h.pn s (by rw [hp]; omega)).1
  have hne : ∀ v, t.num v ≠ 0 → v ≠ s := fun v hv e => hv (e ▸ hs)
  have hnum : ∀ v, t.num v ≠ 0 → (t.openV s).num v = t.num v := fun v hv => upN_ne _ _ _ _ (hne v hv)
  have hnum0 : ∀ v, v ≠ s → (t.openV s).num v = t.num v := fun v hv => upN_ne _ _ _ _ hv
  have hnumS : (t.openV s).num s = t.cnt + 1 := upN_same _ _ _
  have hstk : ∀ v, v ∈ (t.openV s).stk ↔ v ∈ t.stk ∨ v = s := fun v => by simp [Tj.openV]
  have hmem : ∀ v ∈ t.stk, (t.openV s).num v = t.num v := fun v hv => hnum v ((h.st v).1 hv).1
  have hreach : ∀ x ∈ t.stk, Rch E x s := fun x hx => by
    obtain ⟨g, hgG, -, hr⟩ := h.dn x hx
    exact hr.trans (hg g hgG)
  refine ⟨?_, fun v => ?_, ?_, fun v => ?_, fun u v hu e => ?_, fun v hv => ?_, fun g hgm => ?_, fun v u hv hvG e => ?_, fun v u hv e => ?_, fun x hx y hy hxy => ?_, fun y hy => ?_, fun v hv => ?_, fun u v hu hv => ?_⟩
  · show (t.stk ++ [s]).Nodup
    rw [List.nodup_append]
    exact ⟨h.nd, by simp, fun a ha b hb => by rw [List.mem_singleton.1 hb]; rintro rfl; exact hns ha⟩
  · rw [hstk]
    by_cases hv : v = s
    · subst hv
      rw [hnumS]
      exact ⟨fun _ => ⟨by omega, hp0⟩, fun _ => .inr rfl⟩
    · rw [hnum0 v hv]
      show v ∈ t.stk ∨ v = s ↔ t.num v ≠ 0 ∧ t.prt v = 0
      rw [← h.st v]
      exact ⟨fun k => k.resolve_right hv, .inl⟩
  · show (t.stk ++ [s]).Pairwise _
    rw [List.pairwise_append]
    refine ⟨h.so.imp_of_mem fun {a b} ha hb hab => by rw [hmem a ha, hmem b hb]; exact hab, by simp, fun a ha b hb => ?_⟩
    rw [List.mem_singleton.1 hb, hmem a ha, hnumS]
    have := h.le a
    omega
  · by_cases hv : v = s
    · subst hv; rw [hnumS]; exact Nat.le_refl _
    · rw [hnum0 v hv]; exact Nat.le_succ_of_le (h.le v)
  · by_cases hu' : u = s
    · subst hu'
      by_cases hv' : v = u
      · exact hv'.symm
      · rw [hnumS, hnum0 v hv'] at e
        have := h.le v
        omega
    · rw [hnum0 u hu'] at hu e
      by_cases hv' : v = s
      · subst hv'
        rw [hnumS] at e
        have := h.le u
        omega
      · rw [hnum0 v hv'] at e
        exact h.inj u v hu e
  · obtain ⟨h1, r, h2, h3⟩ := h.pn v hv
    refine ⟨by rw [hnum v h1]; exact h1, r, h2, ?_⟩
    have hr : t.num r ≠ 0 := by rw [h3]; exact hv
    rw [hnum r hr]; exact h3
  · rw [hstk]
    rcases List.mem_append.1 hgm with k | k
    · exact .inl (h.gs g k)
    · exact .inr (List.mem_singleton.1 k)
  · have hvs : v ≠ s := fun k => hvG (by rw [k]; simp)
    rw [hnum0 v hvs] at hv
    have := h.bw v u hv (fun k => hvG (List.mem_append_left _ k)) e
    rw [hnum u this]; exact this
  · exact h.fc v u hv e
  · rw [hstk] at hx hy
    rcases hy with hy | rfl
    · rcases hx with hx | rfl
      · rw [hmem x hx, hmem y hy] at hxy
        exact h.up x hx y hy hxy
      · rw [hnumS, hmem y hy] at hxy
        have := h.le y
        omega
    · rcases hx with hx | rfl
      · exact hreach x hx
      · exact Rch.refl _
  · rw [hstk] at hy
    rcases hy with hy | rfl
    · obtain ⟨g, hgG, hle, hr⟩ := h.dn y hy
      exact ⟨g, List.mem_append_left _ hgG, by rw [hmem g (h.gs g hgG), hmem y hy]; exact hle, hr⟩
    · exact ⟨y, by simp, Nat.le_refl _, Rch.refl _⟩
  · rw [hstk] at hv
    rcases hv with hv | rfl
    · obtain ⟨h1, z, hz, h2, h3⟩ := h.lw v hv
      have e : (t.openV s).low v = t.low v := upN_ne _ _ _ _ (hne v ((h.st v).1 hv).1)
      rw [e, hmem v hv]
      exact ⟨h1, z, (hstk z).2 (.inl hz), by rw [hmem z hz]; exact h2, h3⟩
    · have e : (t.openV v).low v = t.cnt + 1 := upN_same _ _ _
      rw [e, hnumS]
      exact ⟨Nat.le_refl _, v, (hstk v).2 (.inr rfl), hnumS, Rch.refl _⟩
  · exact h.eq u v hu hv

end Go.Proofs.Ytdkpdpcecjcmcaa
