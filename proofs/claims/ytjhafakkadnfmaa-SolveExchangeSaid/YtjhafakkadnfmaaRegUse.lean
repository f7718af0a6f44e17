/- A region that draws its order, where an operation may use up the value of another one (an append the row that it lengthens) and the last operation may write. -/
import Derived.Test.YtjhafakkadnfmaaRegSt
namespace Go.Proofs.Ytjhafakkadnfmaa
open Go Go.RowKit

section
variable {P : Program} {ops : Array Oper} {Q : Exit → Act → World → Prop} {md : Region.Mode}

/-- What is known: the values of the listed operations that no listed operation has used up. u i: the operation that uses up the value of i. -/
def UsInv (R : Nat → Value → World → Prop) (u : Nat → Option Nat) (w : World) (listed : Array Bool) (vs : Nat → Value) (W : World) : Prop :=
  Below w.heap.size w W ∧ ∀ i, listed.getD i false = true → (∀ j, u i = some j → listed.getD j false = false) → R i (vs i) W

/-- L lists pairs (j, i): operation j waits, through others perhaps, for operation i. -/
def waitB (ops : Array Oper) (L : List (Nat × Nat)) : Bool := L.all fun p => match ops[p.1]? with | some o => o.after.toList.any fun e => Region.binds .any e && (e.on == p.2 || L.contains (e.on, p.2)) | none => false
theorem waitB_spec {L : List (Nat × Nat)} (h : waitB ops L = true) {j i : Nat} (hL : (j, i) ∈ L) : ∃ o, ops[j]? = some o ∧ ∃ e ∈ o.after, Region.binds .any e = true ∧ (e.on = i ∨ (e.on, i) ∈ L) := by
  have h1 := List.all_eq_true.1 h _ hL
  dsimp only at h1
  split at h1
  · rename_i o ho
    obtain ⟨e, he, h2⟩ := List.any_eq_true.1 h1
    simp only [Bool.and_eq_true, Bool.or_eq_true, beq_iff_eq, List.contains_iff_mem] at h2
    exact ⟨o, ho, e, by simpa using he, h2.1, h2.2⟩
  · cases h1
/-- What is listed holds what it waits for. -/
def Closed (ops : Array Oper) (listed : Array Bool) : Prop := ∀ j o, listed.getD j false = true → ops[j]? = some o → ∀ e ∈ o.after, Region.binds .any e = true → listed.getD e.on false = true
theorem Closed.wait {L : List (Nat × Nat)} {listed : Array Bool} (hb : backB .any ops = true) (h : waitB ops L = true) (hc : Closed ops listed) {i : Nat} : ∀ j, listed.getD j false = true → (j, i) ∈ L → listed.getD i false = true := by
  intro j
  induction j using Nat.strongRecOn with
  | _ j ih =>
    intro hj hL
    obtain ⟨o, ho, e, he, hbd, h2⟩ := waitB_spec h hL
    have h3 := hc j o hj ho e he hbd
    rcases h2 with rfl | h2
    · exact h3
    · exact ih e.on (backB_spec hb ho e he hbd) h3 h2

/-- One operation. -/
def UsStep (P : Program) (Q : Exit → Act → World → Prop) (ops : Array Oper) (R : Nat → Value → World → Prop) (u : Nat → Option Nat) (L : List (Nat × Nat)) (A : (Nat → Value) → Act) (w : World) (i : Nat) (o : Oper) : Prop :=
  ∀ (vs : Nat → Value) (W : World) (K : Act → World → Prop), Below w.heap.size w W → (∀ e ∈ o.after, Region.binds .any e = true → (u e.on = none ∨ u e.on = some i) → R e.on (vs e.on) W) →
    (∀ v W', Below w.heap.size w W' → R i v W' → (∀ j x, j ≠ i → u j ≠ some i → (∀ k, u j = some k → (i, k) ∉ L) → (j, i) ∉ L → R j x W → R j x W') → K (A (upd vs i v)) W') →
    if Region.wanted o (yielded ops (A vs).tmps) = true then Oper.wp P o (A vs) W K Q else K ((A vs).put o.dst undef) W

/-- The last operation, which may write. -/
def UsLast (P : Program) (Q : Exit → Act → World → Prop) (ops : Array Oper) (R : Nat → Value → World → Prop) (u : Nat → Option Nat) (A : (Nat → Value) → Act) (w : World) (m : Nat) (o : Oper) : Prop :=
  ∀ (vs : Nat → Value) (W : World) (K : Act → World → Prop), Below w.heap.size w W → (∀ i, i < m → u i = none → R i (vs i) W) → (∀ a' W', Q .normal a' W' → K a' W') →
    if Region.wanted o (yielded ops (A vs).tmps) = true then Oper.wp P o (A vs) W K Q else K ((A vs).put o.dst undef) W

theorem set_getD {l : Array Bool} {i j : Nat} (h : j ≠ i) : (l.setIfInBounds i true).getD j false = l.getD j false := by
  simp [Array.getD_eq_getD_getElem?, Ne.symm h]
theorem set_getD_self {l : Array Bool} {i : Nat} (h : i < l.size) : (l.setIfInBounds i true).getD i false = true := by
  simp [Array.getD, h]
theorem getD_not {l : Array Bool} {i : Nat} (h : l.getD i true = false) : l.getD i false = false := by
  rcases Nat.lt_or_ge i l.size with hi | hi
  · simp [Array.getD, hi] at h ⊢; exact h
  · simp [Array.getD, Nat.not_lt.2 hi]

theorem use_any (R : Nat → Value → World → Prop) (u : Nat → Option Nat) (L : List (Nat × Nat)) (A : (Nat → Value) → Act) {w : World} (m : Nat) (hb : backB .any ops = true) (hw : waitB ops L = true) (hl : lastB ops m = true)
    (hstep : ∀ i o, i < m → ops[i]? = some o → UsStep P Q ops R u L A w i o) (hlast : ∀ o, ops[m]? = some o → UsLast P Q ops R u A w m o) :
    ∀ (fuel : Nat) (listed : Array Bool) (vs : Nat → Value) (W : World), listed.size = ops.size → listed.toList.count false ≤ fuel → listed.getD m false = false → Closed ops listed → UsInv R u w listed vs W → wpAny P .any ops Q fuel listed (A vs) W
  | 0, listed, vs, W, hs, hc, hm, hcl, hinv => by
    simp only [lastB, Bool.and_eq_true, decide_eq_true_eq] at hl
    have h1 : listed.getD m true = false := by
      have : m < listed.size := by omega
      simp [Array.getD, this] at hm ⊢; exact hm
    obtain ⟨_, h2⟩ := getD_false h1
    have : 0 < listed.toList.count false := List.count_pos_iff.2 (List.mem_of_getElem? h2)
    omega
  | fuel + 1, listed, vs, W, hs, hc, hm, hcl, hinv => by
    have hl' := hl
    simp only [lastB, Bool.and_eq_true, decide_eq_true_eq] at hl'
    obtain ⟨hsz, hla⟩ := hl'
    refine ⟨fun hr => ?_, fun i hi => ?_⟩
    · have := all_listed hb hs hr m (by omega)
      rw [hm] at this; cases this
    · obtain ⟨hli, o, ho, hall⟩ := mem_ready.1 hi
      have hilt := (Array.getElem?_eq_some_iff.1 ho).1
      by_cases him : i = m
      · subst him
        rw [ho] at hla
        have hothers : ∀ j, j < i → listed.getD j false = true := fun j hj => by
          have := List.all_eq_true.1 hla j (List.mem_range.2 hj)
          obtain ⟨e, he, h2⟩ := List.any_eq_true.1 this
          simp only [Bool.and_eq_true, beq_iff_eq] at h2
          obtain ⟨h3, rfl⟩ := h2
          exact hall e (by simpa using he) h3
        refine wpOp_step ho fun K hK => ?_
        refine hlast o ho vs W K hinv.1 (fun j hj hu => hinv.2 j (hothers j hj) fun k hk => by rw [hu] at hk; cases hk) fun a' W' hQ => hK _ _ (wpAny_done (fun j hj => ?_) hQ fuel)
        by_cases hji : j = i
        · subst hji
          exact set_getD_self (by omega)
        · rw [set_getD hji]; exact hothers j (by omega)
      · refine wpOp_step ho fun K hK => ?_
        refine hstep i o (by omega) ho vs W K hinv.1 (fun e he hbd hu => hinv.2 _ (hall e he hbd) fun j hj => ?_) fun v W' hbl hr hkeep => hK _ _ ?_
        · rcases hu with hu | hu
          · rw [hu] at hj; cases hj
          · rw [hu] at hj; cases hj; exact getD_not hli
        refine use_any R u L A m hb hw hl hstep hlast fuel _ (upd vs i v) W' (by simpa using hs) (count_down hli hc) (by rw [set_getD (Ne.symm him)]; exact hm) (fun j o' hj ho' e he hbd => ?_) ⟨hbl, fun j hj hcons => ?_⟩
        · have h1 : listed.getD e.on false = true := by
            by_cases hji : j = i
            · subst hji; rw [ho] at ho'; cases ho'; exact hall e he hbd
            · rw [set_getD hji] at hj; exact hcl j o' hj ho' e he hbd
          by_cases hei : e.on = i
          · rw [hei]; exact set_getD_self (by omega)
          · rw [set_getD hei]; exact h1
        by_cases hji : j = i
        · subst hji
          simpa [upd] using hr
        · rw [set_getD hji] at hj
          simp only [upd, if_neg hji]
          have hne : u j ≠ some i := fun he => by
            have := hcons i he
            rw [set_getD_self (by omega)] at this; cases this
          refine hkeep j _ hji hne (fun k hk hL => ?_) (fun hL => ?_) (hinv.2 j hj fun k hk => ?_)
          · obtain ⟨o2, ho2, e, he, hbd, h2⟩ := waitB_spec hw hL
            rw [ho] at ho2; cases ho2
            have h3 := hall e he hbd
            have h4 : listed.getD k false = true := by
              rcases h2 with rfl | h2
              · exact h3
              · exact hcl.wait hb hw _ h3 h2
            have h5 := hcons k hk
            have hki : k ≠ i := fun hh => hne (hh ▸ hk)
            rw [set_getD hki, h4] at h5; cases h5
          · have h4 := hcl.wait hb hw j hj hL
            rw [getD_not hli] at h4; cases h4
          have h1 := hcons k hk
          by_cases hki : k = i
          · subst hki; exact absurd hk hne
          · rwa [set_getD hki] at h1

/-- The region whose last operation (number m) waits for all others and may write, and where u tells who uses up which value. -/
theorem region_use {id : Nat} {a : Act} {w : World} (hm : P.follows .mixedOrders = true) (R : Nat → Value → World → Prop) (u : Nat → Option Nat) (L : List (Nat × Nat)) (A : (Nat → Value) → Act) (vs : Nat → Value) (m : Nat) (ha : a = A vs) (hb : backB .any ops = true) (hw : waitB ops L = true) (hl : lastB ops m = true)
    (hstep : ∀ i o, i < m → ops[i]? = some o → UsStep P Q ops R u L A w.drew i o) (hlast : ∀ o, ops[m]? = some o → UsLast P Q ops R u A w.drew m o) : (Code.region id ops true).wp P Q a w := by
  subst ha
  have hnone : ∀ i, (Array.replicate ops.size false).getD i false = false := fun i => by
    rcases Nat.lt_or_ge i ops.size with h | h
    · simp [Array.getD, h]
    · simp [Array.getD, Nat.not_lt.2 h]
  refine wp_region_any hm (use_any R u L A m hb hw hl hstep hlast ops.size _ vs w.drew (by simp) (by simp) (hnone m) (fun j o hj => by rw [hnone j] at hj; cases hj) ⟨Below.refl _ _, fun i hi => ?_⟩)
  rw [hnone i] at hi; cases hi

/-- What is known of an operation that one waits for. -/
theorem dep_use {o : Oper} {R : Nat → Value → World → Prop} {u : Nat → Option Nat} {vs : Nat → Value} {W : World} {i : Nat} (hD : ∀ e ∈ o.after, Region.binds .any e = true → (u e.on = none ∨ u e.on = some i) → R e.on (vs e.on) W) (j : Nat) (h : (o.after.toList.any fun e => Region.binds .any e && e.on == j) = true) (hu : u j = none ∨ u j = some i) : R j (vs j) W := by
  obtain ⟨e, he, h2⟩ := List.any_eq_true.1 h
  simp only [Bool.and_eq_true, beq_iff_eq] at h2
  obtain ⟨h3, rfl⟩ := h2
  exact hD e (by simpa using he) h3 hu

/-- An operation that writes nothing that was there. -/
theorem use_plain {R : Nat → Value → World → Prop} {u : Nat → Option Nat} {L : List (Nat × Nat)} {w W : World} {i : Nat} {C : Value → World → Prop} (hR : ∀ i v W W', R i v W → Below W.heap.size W W' → R i v W') (hB : Below w.heap.size w W)
    (hK : ∀ v W', Below w.heap.size w W' → R i v W' → (∀ j x, j ≠ i → u j ≠ some i → (∀ k, u j = some k → (i, k) ∉ L) → (j, i) ∉ L → R j x W → R j x W') → C v W') : ∀ v W', Below W.heap.size W W' → R i v W' → C v W' :=
  fun v W' hb hr => hK v W' (hB.trans (hb.mono hB.size)) hr fun j x _ _ _ _ h => hR j x W W' h hb

end
end Go.Proofs.Ytjhafakkadnfmaa
