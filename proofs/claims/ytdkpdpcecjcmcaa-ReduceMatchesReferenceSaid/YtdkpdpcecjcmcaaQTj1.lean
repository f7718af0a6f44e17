/- The search for components that can reach each other, in one go (numbers, a stack, least numbers that are reached), in plain terms. New priorities of moves, in plain terms: components of sets of moves, and the value that a move gets (as the reference does it: one least priority after the other). -/
import Derived.Test.YtdkpdpcecjcmcaaQBase
namespace Go.Proofs.Ytdkpdpcecjcmcaa

/-- Reached by moves, none or more. -/
inductive Rch (E : Nat → Nat → Prop) : Nat → Nat → Prop
  | refl (a : Nat) : Rch E a a
  | step {a b c : Nat} : Rch E a b → E b c → Rch E a c
theorem Rch.trans {E : Nat → Nat → Prop} {a b c : Nat} (h1 : Rch E a b) (h2 : Rch E b c) : Rch E a c := by
  induction h2 with
  | refl => exact h1
  | step _ e ih => exact ih.step e
theorem Rch.one {E : Nat → Nat → Prop} {a b : Nat} (h : E a b) : Rch E a b := (Rch.refl a).step h
theorem Rch.closed {E : Nat → Nat → Prop} {A : Nat → Prop} (hA : ∀ x y, A x → E x y → A y) {a b : Nat} (h : Rch E a b) (ha : A a) : A b := by
  induction h with
  | refl => exact ha
  | step _ e ih => exact hA _ _ ih e

/-- The state of the search: numbers in the order of the first visit (0: none), the least numbers, the parts (0: none yet), the stack, how many numbers. -/
structure Tj where
  num : Nat → Nat
  low : Nat → Nat
  prt : Nat → Nat
  stk : List Nat
  cnt : Nat

/-- What holds throughout; G: the nodes whose visits are open. -/
structure TInv (E : Nat → Nat → Prop) (t : Tj) (G : List Nat) : Prop where
  nd : t.stk.Nodup
  st : ∀ v, v ∈ t.stk ↔ t.num v ≠ 0 ∧ t.prt v = 0
  so : t.stk.Pairwise fun x y => t.num x < t.num y
  le : ∀ v, t.num v ≤ t.cnt
  inj : ∀ u v, t.num u ≠ 0 → t.num u = t.num v → u = v
  pn : ∀ v, t.prt v ≠ 0 → t.num v ≠ 0 ∧ ∃ r, t.prt r = t.prt v ∧ t.num r = t.prt v
  gs : ∀ g ∈ G, g ∈ t.stk
  bw : ∀ v u, t.num v ≠ 0 → v ∉ G → E v u → t.num u ≠ 0
  fc : ∀ v u, t.prt v ≠ 0 → E v u → t.prt u ≠ 0
  up : ∀ x ∈ t.stk, ∀ y ∈ t.stk, t.num x ≤ t.num y → Rch E x y
  dn : ∀ y ∈ t.stk, ∃ g ∈ G, t.num g ≤ t.num y ∧ Rch E y g
  lw : ∀ v ∈ t.stk, t.low v ≤ t.num v ∧ ∃ z ∈ t.stk, t.num z = t.low v ∧ Rch E v z
  eq : ∀ u v, t.prt u ≠ 0 → t.prt v ≠ 0 → (t.prt u = t.prt v ↔ Rch E u v ∧ Rch E v u)

/-- A visit goes on from t to t'. -/
structure TExt (t t' : Tj) : Prop where
  nu : ∀ v, t.num v ≠ 0 → t'.num v = t.num v
  pr : ∀ v, t.prt v ≠ 0 → t'.prt v = t.prt v
  sk : ∃ r, t'.stk = t.stk ++ r
  lo : ∀ v ∈ t.stk, t'.low v = t.low v
theorem TExt.refl (t : Tj) : TExt t t := ⟨fun _ _ => rfl, fun _ _ => rfl, ⟨[], by simp⟩, fun _ _ => rfl⟩
theorem TExt.trans {t t' t'' : Tj} (h : TExt t t') (k : TExt t' t'') : TExt t t'' := by
  obtain ⟨r, hr⟩ := h.sk
  obtain ⟨s, hs⟩ := k.sk
  refine ⟨fun v hv => ?_, fun v hv => ?_, ⟨r ++ s, by rw [hs, hr, List.append_assoc]⟩, fun v hv => ?_⟩
  · rw [k.nu v (by rw [h.nu v hv]; exact hv), h.nu v hv]
  · rw [k.pr v (by rw [h.pr v hv]; exact hv), h.pr v hv]
  · rw [k.lo v (by rw [hr]; exact List.mem_append_left _ hv), h.lo v hv]

def upN (f : Nat → Nat) (i x : Nat) : Nat → Nat := fun j => if j = i then x else f j
theorem upN_same (f : Nat → Nat) (i x : Nat) : upN f i x i = x := if_pos rfl
theorem upN_ne (f : Nat → Nat) (i x j : Nat) (h : j ≠ i) : upN f i x j = f j := if_neg h

/-- A visit is opened. -/
def Tj.openV (t : Tj) (s : Nat) : Tj := ⟨upN t.num s (t.cnt + 1), upN t.low s (t.cnt + 1), t.prt, t.stk ++ [s], t.cnt + 1⟩
theorem TInv.openV {E : Nat → Nat → Prop} {t : Tj} {G : List Nat} (h : TInv E t G) {s : Nat} (hs : t.num s = 0) (hg : ∀ g ∈ G, Rch E g s) : TInv E (t.openV s) (G ++ [s]) := by
  have hns : s ∉ t.stk := fun hm => ((h.st s).1 hm).1 hs
  have hp0 : t.prt s = 0 := by
    cases hp : t.prt s with
    | zero => rfl
    | succ n => exact absurd hs (h.pn s (by rw [hp]; omega)).1
  have hne : ∀ v, t.num v ≠ 0 → v ≠ s := fun v hv e => hv (e ▸ hs)
  have hnum : ∀ v, t.num v ≠ 0 → (t.openV s).num v = t.num v := fun v hv => upN_ne _ _ _ _ (hne v hv)
  have hnum0 : ∀ v, v ≠ s → (t.openV s).num v = t.num v := fun v hv => upN_ne _ _ _ _ hv
  have hnumS : (t.openV s).num s = t.cnt + 1 := upN_same _ _ _
  have hstk : ∀ v, v ∈ (t.openV s).stk ↔ v ∈ t.stk ∨ v = s := fun v => by simp [Tj.openV]
  have hmem : ∀ v ∈ t.stk, (t.openV s).num v = t.num v := fun v hv => hnum v ((h.st v).1 hv).1
  have hreach : ∀ x ∈ t.stk, Rch E x s := fun x hx => by
    obtain ⟨g, hgG, -, hr⟩ := h.dn x hx
    exact hr.trans (hg g hgG)
  refine ⟨?_, fun v => ?_, ?_, fun v => ?_, fun u v hu e => ?_, fun v hv => ?_, fun g hgm => ?_, fun v u hv hvG e => ?_, fun v u hv e => ?_, fun x hx y hy hxy => ?_, fun y hy => ?_, fun v hv => ?_, fun u v hu hv => ?_⟩
  · show (t.stk ++ [s]).Nodup
    rw [List.nodup_append]
    exact ⟨h.nd, by simp, fun a ha b hb => by rw [List.mem_singleton.1 hb]; rintro rfl; exact hns ha⟩
  · rw [hstk]
    by_cases hv : v = s
    · subst hv
      rw [hnumS]
      exact ⟨fun _ => ⟨by omega, hp0⟩, fun _ => .inr rfl⟩
    · rw [hnum0 v hv]
      show v ∈ t.stk ∨ v = s ↔ t.num v ≠ 0 ∧ t.prt v = 0
      rw [← h.st v]
      exact ⟨fun k => k.resolve_right hv, .inl⟩
  · show (t.stk ++ [s]).Pairwise _
    rw [List.pairwise_append]
    refine ⟨h.so.imp_of_mem fun {a b} ha hb hab => by rw [hmem a ha, hmem b hb]; exact hab, by simp, fun a ha b hb => ?_⟩
    rw [List.mem_singleton.1 hb, hmem a ha, hnumS]
    have := h.le a
    omega
  · by_cases hv : v = s
    · subst hv; rw [hnumS]; exact Nat.le_refl _
    · rw [hnum0 v hv]; exact Nat.le_succ_of_le (h.le v)
  · by_cases hu' : u = s
    · subst hu'
      by_cases hv' : v = u
      · exact hv'.symm
      · rw [hnumS, hnum0 v hv'] at e
        have := h.le v
        omega
    · rw [hnum0 u hu'] at hu e
      by_cases hv' : v = s
      · subst hv'
        rw [hnumS] at e
        have := h.le u
        omega
      · rw [hnum0 v hv'] at e
        exact h.inj u v hu e
  · obtain ⟨h1, r, h2, h3⟩ := h.pn v hv
    refine ⟨by rw [hnum v h1]; exact h1, r, h2, ?_⟩
    have hr : t.num r ≠ 0 := by rw [h3]; exact hv
    rw [hnum r hr]; exact h3
  · rw [hstk]
    rcases List.mem_append.1 hgm with k | k
    · exact .inl (h.gs g k)
    · exact .inr (List.mem_singleton.1 k)
  · have hvs : v ≠ s := fun k => hvG (by rw [k]; simp)
    rw [hnum0 v hvs] at hv
    have := h.bw v u hv (fun k => hvG (List.mem_append_left _ k)) e
    rw [hnum u this]; exact this
  · exact h.fc v u hv e
  · rw [hstk] at hx hy
    rcases hy with hy | rfl
    · rcases hx with hx | rfl
      · rw [hmem x hx, hmem y hy] at hxy
        exact h.up x hx y hy hxy
      · rw [hnumS, hmem y hy] at hxy
        have := h.le y
        omega
    · rcases hx with hx | rfl
      · exact hreach x hx
      · exact Rch.refl _
  · rw [hstk] at hy
    rcases hy with hy | rfl
    · obtain ⟨g, hgG, hle, hr⟩ := h.dn y hy
      exact ⟨g, List.mem_append_left _ hgG, by rw [hmem g (h.gs g hgG), hmem y hy]; exact hle, hr⟩
    · exact ⟨y, by simp, Nat.le_refl _, Rch.refl _⟩
  · rw [hstk] at hv
    rcases hv with hv | rfl
    · obtain ⟨h1, z, hz, h2, h3⟩ := h.lw v hv
      have e : (t.openV s).low v = t.low v := upN_ne _ _ _ _ (hne v ((h.st v).1 hv).1)
      rw [e, hmem v hv]
      exact ⟨h1, z, (hstk z).2 (.inl hz), by rw [hmem z hz]; exact h2, h3⟩
    · have e : (t.openV v).low v = t.cnt + 1 := upN_same _ _ _
      rw [e, hnumS]
      exact ⟨Nat.le_refl _, v, (hstk v).2 (.inr rfl), hnumS, Rch.refl _⟩
  · exact h.eq u v hu hv

end Go.Proofs.Ytdkpdpcecjcmcaa

namespace Go.Proofs.Ytdkpdpcecjcmcaa

/-- A move: a state and a letter. -/
abbrev Mv := Nat × Nat
section
variable (tg : Mv → Nat) (pr : Mv → Int)
/-- The edges of a set of moves. -/
def EdS (S : Mv → Prop) (u v : Nat) : Prop := ∃ m, S m ∧ m.1 = u ∧ tg m = v
/-- The move lies on a cycle of the set. -/
def OnC (S : Mv → Prop) (m : Mv) : Prop := S m ∧ Rch (EdS tg S) (tg m) m.1
/-- m' lies in the component of m. -/
def InC (S : Mv → Prop) (m m' : Mv) : Prop := S m' ∧ Rch (EdS tg S) m.1 m'.1 ∧ Rch (EdS tg S) (tg m') m.1
/-- k is the least priority of the component of m. -/
def LeastC (S : Mv → Prop) (m : Mv) (k : Int) : Prop := (∃ m', InC tg S m m' ∧ pr m' = k) ∧ ∀ m', InC tg S m m' → k ≤ pr m'
def qB (b k : Int) : Int := b + (b + k) % 2
/-- What is left of the component of m above k. -/
def RestC (S : Mv → Prop) (m : Mv) (k : Int) (m' : Mv) : Prop := InC tg S m m' ∧ k < pr m'

inductive Val : (Mv → Prop) → Int → Mv → Int → Prop
  | out {S : Mv → Prop} {b : Int} {m : Mv} : S m → ¬ OnC tg S m → Val S b m b
  | least {S : Mv → Prop} {b : Int} {m : Mv} : OnC tg S m → LeastC tg pr S m (pr m) → Val S b m (qB b (pr m))
  | rest {S : Mv → Prop} {b : Int} {m : Mv} {k v : Int} : OnC tg S m → LeastC tg pr S m k → k < pr m → Val (RestC tg pr S m k) (qB b k) m v → Val S b m v
end

section
variable {tg : Mv → Nat} {pr : Mv → Int} {S T : Mv → Prop} {m m' m'' : Mv} {b k v : Int}
theorem set_ext (h : ∀ x, S x ↔ T x) : S = T := funext fun y => propext (h y)
theorem Rch.mono {E E' : Nat → Nat → Prop} (h : ∀ x y, E x y → E' x y) {a b : Nat} (hr : Rch E a b) : Rch E' a b := by
  induction hr with
  | refl => exact Rch.refl _
  | step _ e ih => exact ih.step (h _ _ e)
theorem ed_mono (h : ∀ m, S m → T m) (x y : Nat) (he : EdS tg S x y) : EdS tg T x y := by
  obtain ⟨m, h1, h2, h3⟩ := he
  exact ⟨m, h m h1, h2, h3⟩
theorem ed_of (h : S m) : EdS tg S m.1 (tg m) := ⟨m, h, rfl, rfl⟩
theorem OnC.self (h : OnC tg S m) : InC tg S m m := ⟨h.1, Rch.refl _, h.2⟩
theorem OnC.of (h : InC tg S m m') : OnC tg S m' := ⟨h.1, h.2.2.trans h.2.1⟩
theorem InC.symm (h : OnC tg S m) (k : InC tg S m m') : InC tg S m' m :=
  ⟨h.1, (Rch.one (ed_of k.1)).trans k.2.2, h.2.trans k.2.1⟩
theorem InC.trans (h : InC tg S m m') (k : InC tg S m' m'') : InC tg S m m'' :=
  ⟨k.1, h.2.1.trans k.2.1, k.2.2.trans ((Rch.one (ed_of h.1)).trans h.2.2)⟩
theorem InC.same (h : OnC tg S m) (k : InC tg S m m') : InC tg S m = InC tg S m' :=
  funext fun x => propext ⟨fun hx => (InC.symm h k).trans hx, fun hx => k.trans hx⟩
theorem LeastC.same (h : OnC tg S m) (k' : InC tg S m m') (hl : LeastC tg pr S m k) : LeastC tg pr S m' k := by
  unfold LeastC at hl ⊢
  rw [← InC.same h k']
  exact hl
theorem RestC.same (h : OnC tg S m) (k' : InC tg S m m') : RestC tg pr S m k = RestC tg pr S m' k := by
  unfold RestC
  rw [InC.same h k']
theorem LeastC.uniq {k k' : Int} (h : LeastC tg pr S m k) (h' : LeastC tg pr S m k') : k = k' := by
  obtain ⟨⟨x, hx, rfl⟩, h2⟩ := h
  obtain ⟨⟨y, hy, rfl⟩, h3⟩ := h'
  have := h2 y hy
  have := h3 x hx
  omega
theorem Val.mem (h : Val tg pr S b m v) : S m := by
  cases h with
  | out h _ => exact h
  | least h _ => exact h.1
  | rest h _ _ _ => exact h.1
theorem Val.det {v v' : Int} (h : Val tg pr S b m v) (h' : Val tg pr S b m v') : v = v' := by
  induction h with
  | out h1 h2 =>
    cases h' with
    | out => rfl
    | least h _ => exact absurd h h2
    | rest h _ _ _ => exact absurd h h2
  | least h1 h2 =>
    cases h' with
    | out _ h => exact absurd h1 h
    | least => rfl
    | rest _ h3 h4 _ => rw [h3.uniq h2] at h4; omega
  | rest h1 h2 h3 _ ih =>
    cases h' with
    | out _ h => exact absurd h1 h
    | least _ h4 => rw [h2.uniq h4] at h3; omega
    | rest _ h4 _ h6 =>
      rw [h4.uniq h2] at h6
      exact ih h6
theorem Val.rest_inv (h : Val tg pr S b m v) (hc : OnC tg S m) (hl : LeastC tg pr S m k) (hk : k < pr m) : Val tg pr (RestC tg pr S m k) (qB b k) m v := by
  cases h with
  | out _ h => exact absurd hc h
  | least _ h => rw [h.uniq hl] at hk; omega
  | rest _ h1 _ h3 => rw [h1.uniq hl] at h3; exact h3
theorem Val.least_inv (h : Val tg pr S b m v) (hc : OnC tg S m) (hl : LeastC tg pr S m k) (hk : pr m = k) : v = qB b k := by
  subst hk
  exact h.det (.least hc hl)
theorem Val.out_inv (h : Val tg pr S b m v) (hc : ¬ OnC tg S m) : v = b := h.det (.out h.mem hc)
theorem qB_ge (b k : Int) : b ≤ qB b k := by unfold qB; omega
theorem qB_le (b k : Int) : qB b k ≤ b + 1 := by unfold qB; omega
theorem qB_par (b k : Int) : qB b k % 2 = k % 2 := by unfold qB; omega
theorem qB_same (h : b % 2 = k % 2) : qB b k = b := by unfold qB; omega
theorem Val.ge (h : Val tg pr S b m v) : b ≤ v := by
  induction h with
  | out => exact Int.le_refl _
  | least => exact qB_ge _ _
  | rest _ _ _ _ ih => exact Int.le_trans (qB_ge _ _) ih
/-- No value is greater than the old priority, when the bound is not greater than any of them. -/
theorem Val.le_pr (h : Val tg pr S b m v) (hb : ∀ m, S m → b ≤ pr m) : v ≤ pr m := by
  induction h with
  | out h _ => exact hb _ h
  | least h1 h2 => have := hb _ h1.1; unfold qB; omega
  | @rest S b m k v h1 h2 h3 _ ih =>
    refine ih fun x hx => ?_
    obtain ⟨⟨y, hy, rfl⟩, -⟩ := h2
    have := hb y hy.1
    have := hx.2
    unfold qB; omega

/-! Finite sets. -/
/-- How many moves of a list are in a set. -/
noncomputable def cntM (l : List Mv) (S : Mv → Prop) : Nat := by
  classical exact (l.filter fun m => decide (S m)).length
theorem cntM_le (l : List Mv) (h : ∀ m, S m → T m) : cntM l S ≤ cntM l T := by
  classical
  unfold cntM
  induction l with
  | nil => simp
  | cons x l ih =>
    simp only [List.filter_cons]
    by_cases h1 : S x
    · rw [if_pos (by simpa using h1), if_pos (by simpa using h x h1)]; simpa using ih
    · rw [if_neg (by simpa using h1)]
      split
      · exact Nat.le_succ_of_le ih
      · exact ih
theorem cntM_lt {l : List Mv} (h : ∀ m, S m → T m) {x : Mv} (hx : x ∈ l) (h1 : T x) (h2 : ¬ S x) : cntM l S < cntM l T := by
  classical
  unfold cntM
  induction l with
  | nil => cases hx
  | cons y l ih =>
    simp only [List.filter_cons]
    have hle := cntM_le (S := S) (T := T) l h
    unfold cntM at hle
    by_cases e : x = y
    · subst e
      rw [if_neg (by simpa using h2), if_pos (by simpa using h1)]
      simp; omega
    · have := ih ((List.mem_cons.1 hx).resolve_left e)
      by_cases h3 : S y
      · rw [if_pos (by simpa using h3), if_pos (by simpa using h y h3)]; simpa using this
      · rw [if_neg (by simpa using h3)]
        split
        · exact Nat.lt_succ_of_lt this
        · exact this
theorem cntM_len (l : List Mv) : cntM l S ≤ l.length := by
  classical
  unfold cntM
  exact List.length_filter_le _ _
theorem rest_lt {l : List Mv} (hl : ∀ m, S m → m ∈ l) (hk : LeastC tg pr S m k) : cntM l (RestC tg pr S m k) < cntM l S := by
  obtain ⟨⟨x, hx, rfl⟩, -⟩ := hk
  exact cntM_lt (fun y hy => hy.1.1) (hl x hx.1) hx.1 fun h => by have := h.2; omega
theorem rest_in {l : List Mv} (hl : ∀ m, S m → m ∈ l) : ∀ m', RestC tg pr S m k m' → m' ∈ l := fun m' h => hl m' h.1.1
theorem least_ex {l : List Mv} (hl : ∀ m, S m → m ∈ l) (h : OnC tg S m) : ∃ k, LeastC tg pr S m k := by
  classical
  have key : ∀ (l' : List Mv), (∃ x ∈ l', InC tg S m x) → ∃ x ∈ l', InC tg S m x ∧ ∀ y ∈ l', InC tg S m y → pr x ≤ pr y := by
    intro l'
    induction l' with
    | nil => rintro ⟨x, hx, -⟩; cases hx
    | cons z l' ih =>
      rintro ⟨x, hx, hC⟩
      by_cases hex : ∃ x ∈ l', InC tg S m x
      · obtain ⟨y, hy, hyC, hmin⟩ := ih hex
        by_cases hz : InC tg S m z ∧ pr z < pr y
        · refine ⟨z, by simp, hz.1, fun u hu hC => ?_⟩
          rcases List.mem_cons.1 hu with rfl | hu
          · omega
          · have := hmin u hu hC; omega
        · refine ⟨y, by simp [hy], hyC, fun u hu hC => ?_⟩
          rcases List.mem_cons.1 hu with rfl | hu
          · by_cases hzz : pr u < pr y
            · exact absurd ⟨hC, hzz⟩ hz
            · omega
          · exact hmin u hu hC
      · rcases List.mem_cons.1 hx with rfl | hx
        · refine ⟨x, by simp, hC, fun u hu hCu => ?_⟩
          rcases List.mem_cons.1 hu with rfl | hu
          · omega
          · exact absurd ⟨u, hu, hCu⟩ hex
        · exact absurd ⟨x, hx, hC⟩ hex
  obtain ⟨x, -, hC, hmin⟩ := key l ⟨m, hl m h.1, h.self⟩
  exact ⟨pr x, ⟨x, hC, rfl⟩, fun y hy => hmin y (hl y hy.1) hy⟩
theorem Val.total {l : List Mv} : ∀ (n : Nat) {S : Mv → Prop} {b : Int} {m : Mv}, cntM l S ≤ n → (∀ m, S m → m ∈ l) → S m → ∃ v, Val tg pr S b m v := by
  intro n
  induction n with
  | zero =>
    intro S b m hn hl hm
    exact ⟨b, .out hm fun h => by
      obtain ⟨k, hk⟩ := least_ex (pr := pr) hl h
      have := rest_lt (tg := tg) (pr := pr) hl hk
      omega⟩
  | succ n ih =>
    intro S b m hn hl hm
    by_cases h : OnC tg S m
    · obtain ⟨k, hk⟩ := least_ex (pr := pr) hl h
      have h1 := rest_lt (tg := tg) (pr := pr) hl hk
      have h2 := hk.2 m h.self
      by_cases e : pr m = k
      · subst e; exact ⟨_, .least h hk⟩
      · obtain ⟨v, hv⟩ := ih (S := RestC tg pr S m k) (b := qB b k) (m := m) (by omega) (rest_in hl) ⟨h.self, by omega⟩
        exact ⟨v, .rest h hk (by omega) hv⟩
    · exact ⟨b, .out hm h⟩
/-- A value is not greater than the bound and the number of moves. -/
theorem Val.le_cnt {l : List Mv} (h : Val tg pr S b m v) : (∀ m, S m → m ∈ l) → v ≤ b + cntM l S := by
  induction h with
  | out => intro _; omega
  | @least S b m h1 h2 =>
    intro hl
    have := rest_lt (tg := tg) (pr := pr) hl h2
    have := qB_le b (pr m)
    omega
  | @rest S b m k v h1 h2 h3 _ ih =>
    intro hl
    have := rest_lt (tg := tg) (pr := pr) hl h2
    have := qB_le b k
    have := ih (rest_in hl)
    omega
end

end Go.Proofs.Ytdkpdpcecjcmcaa
