/- New priorities of moves, in plain terms: components of sets of moves, and the value that a move gets (as the reference does it: one least priority after the other). -/
import Derived.Test.YtdkpdpcecjcmcaaTj1
namespace Go.Proofs.Ytdkpdpcecjcmcaa

/-- A move: a state and a letter. -/
abbrev Mv := Nat × Nat
section
variable (tg : Mv → Nat) (pr : Mv → Int)
/-- The edges of a set of moves. -/
def EdS (S : Mv → Prop) (u v : Nat) : Prop := ∃ m, S m ∧ m.1 = u ∧ tg m = v
/-- The move lies on a cycle of the set. -/
def OnC (S : Mv → Prop) (m : Mv) : Prop := S m ∧ Rch (EdS tg S) (tg m) m.1
/-- m' lies in the component of m. -/
def InC (S : Mv → Prop) (m m' : Mv) : Prop := S m' ∧ Rch (EdS tg S) m.1 m'.1 ∧ Rch (EdS tg S) (tg m') m.1
/-- k is the least priority of the component of m. -/
def LeastC (S : Mv → Prop) (m : Mv) (k : Int) : Prop := (∃ m', InC tg S m m' ∧ pr m' = k) ∧ ∀ m', InC tg S m m' → k ≤ pr m'
def qB (b k : Int) : Int := b + (b + k) % 2
/-- What is left of the component of m above k. -/
def RestC (S : Mv → Prop) (m : Mv) (k : Int) (m' : Mv) : Prop := InC tg S m m' ∧ k < pr m'

inductive Val : (Mv → Prop) → Int → Mv → Int → Prop
  | out {S : Mv → Prop} {b : Int} {m : Mv} : S m → ¬ OnC tg S m → Val S b m b
  | least {S : Mv → Prop} {b : Int} {m : Mv} : OnC tg S m → LeastC tg pr S m (pr m) → Val S b m (qB b (pr m))
  | rest {S : Mv → Prop} {b : Int} {m : Mv} {k v : Int} : OnC tg S m → LeastC tg pr S m k → k < pr m → Val (RestC tg pr S m k) (qB b k) m v → Val S b m v
end

section
variable {tg : Mv → Nat} {pr : Mv → Int} {S T : Mv → Prop} {m m' m'' : Mv} {b k v : Int}
theorem set_ext (h : ∀ x, S x ↔ T x) : S = T := funext fun y => propext (h y)
theorem Rch.mono {E E' : Nat → Nat → Prop} (h : ∀ x y, E x y → E' x y) {a b : Nat} (hr : Rch E a b) : Rch E' a b := by
  induction hr with
  | refl => exact Rch.refl _
  | step _ e ih => exact ih.step (h _ _ e)
theorem ed_mono (h : ∀ m, S m → T m) (x y : Nat) (he : EdS tg S x y) : EdS tg T x y := by
  obtain ⟨m, h1, h2, h3⟩ := he
  exact ⟨m, h m h1, h2, h3⟩
theorem ed_of (h : S m) : EdS tg S m.1 (tg m) := ⟨m, h, rfl, rfl⟩
theorem OnC.self (h : OnC tg S m) : InC tg S m m := ⟨h.1, Rch.refl _, h.2⟩
theorem OnC.of (h : InC tg S m m') : OnC tg S m' := ⟨h.1, h.2.2.trans h.2.1⟩
theorem InC.symm (h : OnC tg S m) (k : InC tg S m m') : InC tg S m' m :=
  ⟨h.1, (Rch.one (ed_of k.1)).trans k.2.2, h.2.trans k.2.1⟩
theorem InC.trans (h : InC tg S m m') (k : InC tg S m' m'') : InC tg S m m'' :=
  ⟨k.1, h.2.1.trans k.2.1, k.2.2.trans ((Rch.one (ed_of h.1)).trans h.2.2)⟩
theorem InC.same (h : OnC tg S m) (k : InC tg S m m') : InC tg S m = InC tg S m' :=
  funext fun x => propext ⟨fun hx => (InC.symm h k).trans hx, fun hx => k.trans hx⟩
theorem LeastC.same (h : OnC tg S m) (k' : InC tg S m m') (hl : LeastC tg pr S m k) : LeastC tg pr S m' k := by
  unfold LeastC at hl ⊢
  rw [← InC.same h k']
  exact hl
theorem RestC.same (h : OnC tg S m) (k' : InC tg S m m') : RestC tg pr S m k = RestC tg pr S m' k := by
  unfold RestC
  rw [InC.same h k']
theorem LeastC.uniq {k k' : Int} (h : LeastC tg pr S m k) (h' : LeastC tg pr S m k') : k = k' := by
  obtain ⟨⟨x, hx, rfl⟩, h2⟩ := h
  obtain ⟨⟨y, hy, rfl⟩, h3⟩ := h'
  have := h2 y hy
  have := h3 x hx
  omega
theorem Val.mem (h : Val tg pr S b m v) : S m := by
  cases h with
  | out h _ => exact h
  | least h _ => exact h.1
  | rest h _ _ _ => exact h.1
theorem Val.det {v v' : Int} (h : Val tg pr S b m v) (h' : Val tg pr S b m v') : v = v' := by
  induction h with
  | out h1 h2 =>
    cases h' with
    | out => rfl
    | least h _ => exact absurd h h2
    | rest h _ _ _ => exact absurd h h2
  | least h1 h2 =>
    cases h' with
    | out _ h => exact absurd h1 h
    | least => rfl
    | rest _ h3 h4 _ => rw [h3.uniq h2] at h4; omega
  | rest h1 h2 h3 _ ih =>
    cases h' with
    | out _ h => exact absurd h1 h
    | least _ h4 => rw [h2.uniq h4] at h3; omega
    | rest _ h4 _ h6 =>
      rw [h4.uniq h2] at h6
      exact ih h6
theorem Val.rest_inv (h : Val tg pr S b m v) (hc : OnC tg S m) (hl : LeastC tg pr S m k) (hk : k < pr m) : Val tg pr (RestC tg pr S m k) (qB b k) m v := by
  cases h with
  | out _ h => exact absurd hc h
  | least _ h => rw [h.uniq hl] at hk; omega
  | rest _ h1 _ h3 => rw [h1.uniq hl] at h3; exact h3
theorem Val.least_inv (h : Val tg pr S b m v) (hc : OnC tg S m) (hl : LeastC tg pr S m k) (hk : pr m = k) : v = qB b k := by
  subst hk
  exact h.det (.least hc hl)
theorem Val.out_inv (h : Val tg pr S b m v) (hc : ¬ OnC tg S m) : v = b := h.det (.out h.mem hc)
theorem qB_ge (b k : Int) : b ≤ qB b k := by unfold qB; omega
theorem qB_le (b k : Int) : qB b k ≤ b + 1 := by unfold qB; omega
theorem qB_par (b k : Int) : qB b k % 2 = k % 2 := by unfold qB; omega
theorem qB_same (h : b % 2 = k % 2) : qB b k = b := by unfold qB; omega
theorem Val.ge (h : Val tg pr S b m v) : b ≤ v := by
  induction h with
  | out => exact Int.le_refl _
  | least => exact qB_ge _ _
  | rest _ _ _ _ ih => exact Int.le_trans (qB_ge _ _) ih
/-- No value is greater than the old priority, when the bound is not greater than any of them. -/
theorem Val.le_pr (h : Val tg pr S b m v) (hb : ∀ m, S m → b ≤ pr m) : v ≤ pr m := by
  induction h with
  | out h _ => exact hb _ h
  | least h1 h2 => have := hb _ h1.1; unfold qB; omega
  | @rest S b m k v h1 h2 h3 _ ih =>
    refine ih fun x hx => ?_
    obtain ⟨⟨y, hy, rfl⟩, -⟩ := h2
    have := hb y hy.1
    have := hx.2
    unfold qB; omega

/-! Finite sets. -/
/-- How many moves of a list are in a set. -/
noncomputable def cntM (l : List Mv) (S : Mv → Prop) : Nat := by
  classical exact (l.filter fun m => decide (S m)).length
theorem cntM_le (l : List Mv) (h : ∀ m, S m → T m) : cntM l S ≤ cntM l T := by
  classical
  unfold cntM
  induction l with
  | nil => simp
  | cons x l ih =>
    simp only [List.filter_cons]
    by_cases h1 : S x
    · rw [if_pos (by simpa using h1), if_pos (by simpa using h x h1)]; simpa using ih
    · rw [if_neg (by simpa using h1)]
      split
      · exact Nat.le_succ_of_le ih
      · exact ih
theorem cntM_lt {l : List Mv} (h : ∀ m, S m → T m) {x : Mv} (hx : x ∈ l) (h1 : T x) (h2 : ¬ S x) : cntM l S < cntM l T := by
  classical
  unfold cntM
  induction l with
  | nil => cases hx
  | cons y l ih =>
    simp only [List.filter_cons]
    have hle := cntM_le (S := S) (T := T) l h
    unfold cntM at hle
    by_cases e : x = y
    · subst e
      rw [if_neg (by simpa using h2), if_pos (by simpa using h1)]
      simp; omega
    · have := ih ((List.mem_cons.1 hx).resolve_left e)
      by_cases h3 : S y
      · rw [if_pos (by simpa using h3), if_pos (by simpa using h y h3)]; simpa using this
      · rw [if_neg (by simpa using h3)]
        split
        · exact Nat.lt_succ_of_lt this
        · exact this
theorem cntM_len (l : List Mv) : cntM l S ≤ l.length := by
  classical
  unfold cntM
  exact List.length_filter_le _ _
theorem rest_lt {l : List Mv} (hl : ∀ m, S m → m ∈ l) (hk : LeastC tg pr S m k) : cntM l (RestC tg pr S m k) < cntM l S := by
  obtain ⟨⟨x, hx, rfl⟩, -⟩ := hk
  exact cntM_lt (fun y hy => hy.1.1) (hl x hx.1) hx.1 fun h => by have := h.2; omega
theorem rest_in {l : List Mv} (hl : ∀ m, S m → m ∈ l) : ∀ m', RestC tg pr S m k m' → m' ∈ l := fun m' h => hl m' h.1.1
theorem least_ex {l : List Mv} (hl : ∀ m, S m → m ∈ l) (h : OnC tg S m) : ∃ k, LeastC tg pr S m k := by
  classical
  have key : ∀ (l' : List Mv), (∃ x ∈ l', InC tg S m x) → ∃ x ∈ l', InC tg S m x ∧ ∀ y ∈ l', InC tg S m y → pr x ≤ pr y := by
    intro l'
    induction l' with
    | nil => rintro ⟨x, hx, -⟩; cases hx
    | cons z l' ih =>
      rintro ⟨x, hx, hC⟩
      by_cases hex : ∃ x ∈ l', InC tg S m x
      · obtain ⟨y, hy, hyC, hmin⟩ := ih hex
        by_cases hz : InC tg S m z ∧ pr z < pr y
        · refine ⟨z, by simp, hz.1, fun u hu hC => ?_⟩
          rcases List.mem_cons.1 hu with rfl | hu
          · omega
          · have := hmin u hu hC; omega
        · refine ⟨y, by simp [hy], hyC, fun u hu hC => ?_⟩
          rcases List.mem_cons.1 hu with rfl | hu
          · by_cases hzz : pr u < pr y
            · exact absurd ⟨hC, hzz⟩ hz
            · omega
          · exact hmin u hu hC
      · rcases List.mem_cons.1 hx with rfl | hx
        · refine ⟨x, by simp, hC, fun u hu hCu => ?_⟩
          rcases List.mem_cons.1 hu with rfl | hu
          · omega
          · exact absurd ⟨u, hu, hCu⟩ hex
        · exact absurd ⟨x, hx, hC⟩ hex
  obtain ⟨x, -, hC, hmin⟩ := key l ⟨m, hl m h.1, h.self⟩
  exact ⟨pr x, ⟨x, hC, rfl⟩, fun y hy => hmin y (hl y hy.1) hy⟩
theorem Val.total {l : List Mv} : ∀ (n : Nat) {S : Mv → Prop} {b : Int} {m : Mv}, cntM l S ≤ n → (∀ m, S m → m ∈ l) → S m → ∃ v, Val tg pr S b m v := by
  intro n
  induction n with
  | zero =>
    intro S b m hn hl hm
    exact ⟨b, .out hm fun h => by
      obtain ⟨k, hk⟩ := least_ex (pr := pr) hl h
      have := rest_lt (tg := tg) (pr := pr) hl hk
      omega⟩
  | succ n ih =>
    intro S b m hn hl hm
    by_cases h : OnC tg S m
    · obtain ⟨k, hk⟩ := least_ex (pr := pr) hl h
      have h1 := rest_lt (tg := tg) (pr := pr) hl hk
      have h2 := hk.2 m h.self
      by_cases e : pr m = k
      · subst e; exact ⟨_, .least h hk⟩
      · obtain ⟨v, hv⟩ := ih (S := RestC tg pr S m k) (b := qB b k) (m := m) (by omega) (rest_in hl) ⟨h.self, by omega⟩
        exact ⟨v, .rest h hk (by omega) hv⟩
    · exact ⟨b, .out hm h⟩
/-- A value is not greater than the bound and the number of moves. -/
theorem Val.le_cnt {l : List Mv} (h : Val tg pr S b m v) : (∀ m, S m → m ∈ l) → v ≤ b + cntM l S := by
  induction h with
  | out => intro _; omega
  | @least S b m h1 h2 =>
    intro hl
    have := rest_lt (tg := tg) (pr := pr) hl h2
    have := qB_le b (pr m)
    omega
  | @rest S b m k v h1 h2 h3 _ ih =>
    intro hl
    have := rest_lt (tg := tg) (pr := pr) hl h2
    have := qB_le b k
    have := ih (rest_in hl)
    omega
end

end Go.Proofs.Ytdkpdpcecjcmcaa
