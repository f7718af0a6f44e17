/- Games: the two Valid, Small, Swap; rows of one's own; slices: Clone, Concat, Ints. -/
import Derived.Test.YtkbiopjinegckaaStC
namespace Go.Proofs.Ytkbiopjinegckaa
open Go.RowKit
open Go Go.RowKit

section
variable {P : Program} {ops : Array Oper} {Q : Exit → Act → World → Prop} {md : Region.Mode}
/-- The last operation waits for all others. -/
def lastB (ops : Array Oper) (m : Nat) : Bool := decide (ops.size = m + 1) && match ops[m]? with | some o => (List.range m).all (fun j => o.after.toList.any fun e => Region.binds .any e && e.on == j) | none => false
end

section
variable {P : Program} {ops : Array Oper} {Q : Exit → Act → World → Prop} {md : Region.Mode}
theorem ready_nil {listed : Array Bool} (h : ∀ i, i < ops.size → listed.getD i false = true) : Region.ready md ops listed = [] :=
  List.eq_nil_iff_forall_not_mem.2 fun j hj => by
    obtain ⟨h1, o, ho, _⟩ := mem_ready.1 hj
    have hj2 := (Array.getElem?_eq_some_iff.1 ho).1
    have h2 := h j hj2
    obtain ⟨h3, _⟩ := getD_false h1
    simp [Array.getD, h3] at h1 h2
    rw [h1] at h2; cases h2
end

section
variable {P : Program} {ops : Array Oper} {Q : Exit → Act → World → Prop} {md : Region.Mode}
theorem wpAny_done {listed : Array Bool} {a : Act} {w : World} (h : ∀ i, i < ops.size → listed.getD i false = true) (hQ : Q .normal a w) : ∀ fuel, wpAny P md ops Q fuel listed a w
  | 0 => ⟨ready_nil h, hQ⟩
  | _ + 1 => ⟨fun _ => hQ, by rw [ready_nil h]; simp⟩
end

section
variable {P : Program} {ops : Array Oper} {Q : Exit → Act → World → Prop} {md : Region.Mode}
/-- The last operation, which may write. -/
def StLast (P : Program) (Q : Exit → Act → World → Prop) (ops : Array Oper) (R : Nat → Value → World → Prop) (A : (Nat → Value) → Act) (w : World) (m : Nat) (o : Oper) : Prop :=
  ∀ (vs : Nat → Value) (W : World) (K : Act → World → Prop), Below w.heap.size w W → (∀ i, i < m → R i (vs i) W) → (∀ a' W', Q .normal a' W' → K a' W') →
    if Region.wanted o (yielded ops (A vs).tmps) = true then Oper.wp P o (A vs) W K Q else K ((A vs).put o.dst undef) W
end

section
variable {P : Program} {ops : Array Oper} {Q : Exit → Act → World → Prop} {md : Region.Mode}
theorem last_any (R : Nat → Value → World → Prop) (A : (Nat → Value) → Act) {w : World} (m : Nat) (hb : backB .any ops = true) (hl : lastB ops m = true) (hR : ∀ i v W W', R i v W → Below W.heap.size W W' → R i v W')
    (hstep : ∀ i o, i < m → ops[i]? = some o → StStep P Q ops R A w i o) (hlast : ∀ o, ops[m]? = some o → StLast P Q ops R A w m o) :
    ∀ (fuel : Nat) (listed : Array Bool) (vs : Nat → Value) (W : World), listed.size = ops.size → listed.toList.count false ≤ fuel → listed.getD m false = false → StInv R w listed vs W → wpAny P .any ops Q fuel listed (A vs) W
  | 0, listed, vs, W, hs, hc, hm, hinv => by
    simp only [lastB, Bool.and_eq_true, decide_eq_true_eq] at hl
    have h1 : listed.getD m true = false := by
      have : m < listed.size := by omega
      simp [Array.getD, this] at hm ⊢; exact hm
    obtain ⟨_, h2⟩ := getD_false h1
    have : 0 < listed.toList.count false := List.count_pos_iff.2 (List.mem_of_getElem? h2)
    omega
  | fuel + 1, listed, vs, W, hs, hc, hm, hinv => by
    have hl' := hl
    simp only [lastB, Bool.and_eq_true, decide_eq_true_eq] at hl'
    obtain ⟨hsz, hla⟩ := hl'
    refine ⟨fun hr => ?_, fun i hi => ?_⟩
    · have := all_listed hb hs hr m (by omega)
      rw [hm] at this; cases this
    · obtain ⟨hli, o, ho, hall⟩ := mem_ready.1 hi
      have hilt := (Array.getElem?_eq_some_iff.1 ho).1
      have hset : ∀ j, j ≠ i → (listed.setIfInBounds i true).getD j false = listed.getD j false := fun j hj => by
        simp [Array.getD_eq_getD_getElem?, Ne.symm hj]
      by_cases him : i = m
      · subst him
        rw [ho] at hla
        have hothers : ∀ j, j < i → listed.getD j false = true := fun j hj => by
          have := List.all_eq_true.1 hla j (List.mem_range.2 hj)
          obtain ⟨e, he, h2⟩ := List.any_eq_true.1 this
          simp only [Bool.and_eq_true, beq_iff_eq] at h2
          obtain ⟨h3, rfl⟩ := h2
          exact hall e (by simpa using he) h3
        refine wpOp_step ho fun K hK => ?_
        refine hlast o ho vs W K hinv.1 (fun j hj => hinv.2 j (hothers j hj)) fun a' W' hQ => hK _ _ (wpAny_done (fun j hj => ?_) hQ fuel)
        by_cases hji : j = i
        · subst hji
          have : j < listed.size := by omega
          simp [Array.getD, this]
        · rw [hset j hji]; exact hothers j (by omega)
      · refine wpOp_step ho fun K hK => ?_
        refine hstep i o (by omega) ho vs W K hinv.1 (fun e he hbd => hinv.2 _ (hall e he hbd)) fun v W' hbl hr => hK _ _ ?_
        refine last_any R A m hb hl hR hstep hlast fuel _ (upd vs i v) W' (by simpa using hs) (count_down hli hc) (by rw [hset m (Ne.symm him)]; exact hm) ⟨hinv.1.trans (hbl.mono hinv.1.size), fun j hj => ?_⟩
        by_cases hji : j = i
        · subst hji
          simpa [upd] using hr
        · rw [hset j hji] at hj
          simp only [upd, if_neg hji]
          exact hR j _ W W' (hinv.2 j hj) hbl
end

section
variable {P : Program} {ops : Array Oper} {Q : Exit → Act → World → Prop} {md : Region.Mode}
/-- The region whose last operation (number m) waits for all others and may write. -/
theorem region_last {id : Nat} {a : Act} {w : World} (hm : P.follows .mixedOrders = true) (R : Nat → Value → World → Prop) (A : (Nat → Value) → Act) (vs : Nat → Value) (m : Nat) (ha : a = A vs) (hb : backB .any ops = true) (hl : lastB ops m = true)
    (hR : ∀ i v W W', R i v W → Below W.heap.size W W' → R i v W')
    (hstep : ∀ i o, i < m → ops[i]? = some o → StStep P Q ops R A w.drew i o) (hlast : ∀ o, ops[m]? = some o → StLast P Q ops R A w.drew m o) : (Code.region id ops true).wp P Q a w := by
  subst ha
  have hnone : ∀ i, (Array.replicate ops.size false).getD i false = false := fun i => by
    rcases Nat.lt_or_ge i ops.size with h | h
    · simp [Array.getD, h]
    · simp [Array.getD, Nat.not_lt.2 h]
  refine wp_region_any hm (last_any R A m hb hl hR hstep hlast ops.size _ vs w.drew (by simp) (by simp) (hnone m) ⟨Below.refl _ _, fun i hi => ?_⟩)
  rw [hnone i] at hi; cases hi
end

section
variable {P : Program} {ops : Array Oper} {Q : Exit → Act → World → Prop} {md : Region.Mode}
/-- What is known of an operation that one waits for. -/
theorem dep_of {o : Oper} {R : Nat → Value → World → Prop} {vs : Nat → Value} {W : World} (hD : ∀ e ∈ o.after, Region.binds .any e = true → R e.on (vs e.on) W) (j : Nat) (h : (o.after.toList.any fun e => Region.binds .any e && e.on == j) = true) : R j (vs j) W := by
  obtain ⟨e, he, h2⟩ := List.any_eq_true.1 h
  simp only [Bool.and_eq_true, beq_iff_eq] at h2
  obtain ⟨h3, rfl⟩ := h2
  exact hD e (by simpa using he) h3
end

section
variable {P : Program} {ops : Array Oper} {Q : Exit → Act → World → Prop} {md : Region.Mode}
/-- What is known: the values of the listed operations that no listed operation has used up. u i: the operation that uses up the value of i. -/
def UsInv (R : Nat → Value → World → Prop) (u : Nat → Option Nat) (w : World) (listed : Array Bool) (vs : Nat → Value) (W : World) : Prop :=
  Below w.heap.size w W ∧ ∀ i, listed.getD i false = true → (∀ j, u i = some j → listed.getD j false = false) → R i (vs i) W
end

section
variable {P : Program} {ops : Array Oper} {Q : Exit → Act → World → Prop} {md : Region.Mode}
/-- L lists pairs (j, i): operation j waits, through others perhaps, for operation i. -/
def waitB (ops : Array Oper) (L : List (Nat × Nat)) : Bool := L.all fun p => match ops[p.1]? with | some o => o.after.toList.any fun e => Region.binds .any e && (e.on == p.2 || L.contains (e.on, p.2)) | none => false
end

section
variable {P : Program} {ops : Array Oper} {Q : Exit → Act → World → Prop} {md : Region.Mode}
theorem waitB_spec {L : List (Nat × Nat)} (h : waitB ops L = true) {j i : Nat} (hL : (j, i) ∈ L) : ∃ o, ops[j]? = some o ∧ ∃ e ∈ o.after, Region.binds .any e = true ∧ (e.on = i ∨ (e.on, i) ∈ L) := by
  have h1 := List.all_eq_true.1 h _ hL
  dsimp only at h1
  split at h1
  · rename_i o ho
    obtain ⟨e, he, h2⟩ := List.any_eq_true.1 h1
    simp only [Bool.and_eq_true, Bool.or_eq_true, beq_iff_eq, List.contains_iff_mem] at h2
    exact ⟨o, ho, e, by simpa using he, h2.1, h2.2⟩
  · cases h1
end

section
variable {P : Program} {ops : Array Oper} {Q : Exit → Act → World → Prop} {md : Region.Mode}
/-- What is listed holds what it waits for. -/
def Closed (ops : Array Oper) (listed : Array Bool) : Prop := ∀ j o, listed.getD j false = true → ops[j]? = some o → ∀ e ∈ o.after, Region.binds .any e = true → listed.getD e.on false = true
end

section
variable {P : Program} {ops : Array Oper} {Q : Exit → Act → World → Prop} {md : Region.Mode}
theorem Closed.wait {L : List (Nat × Nat)} {listed : Array Bool} (hb : backB .any ops = true) (h : waitB ops L = true) (hc : Closed ops listed) {i : Nat} : ∀ j, listed.getD j false = true → (j, i) ∈ L → listed.getD i false = true := by
  intro j
  induction j using Nat.strongRecOn with
  | _ j ih =>
    intro hj hL
    obtain ⟨o, ho, e, he, hbd, h2⟩ := waitB_spec h hL
    have h3 := hc j o hj ho e he hbd
    rcases h2 with rfl | h2
    · exact h3
    · exact ih e.on (backB_spec hb ho e he hbd) h3 h2
end

section
variable {P : Program} {ops : Array Oper} {Q : Exit → Act → World → Prop} {md : Region.Mode}
/-- One operation. -/
def UsStep (P : Program) (Q : Exit → Act → World → Prop) (ops : Array Oper) (R : Nat → Value → World → Prop) (u : Nat → Option Nat) (L : List (Nat × Nat)) (A : (Nat → Value) → Act) (w : World) (i : Nat) (o : Oper) : Prop :=
  ∀ (vs : Nat → Value) (W : World) (K : Act → World → Prop), Below w.heap.size w W → (∀ e ∈ o.after, Region.binds .any e = true → (u e.on = none ∨ u e.on = some i) → R e.on (vs e.on) W) →
    (∀ v W', Below w.heap.size w W' → R i v W' → (∀ j x, j ≠ i → u j ≠ some i → (∀ k, u j = some k → (i, k) ∉ L) → (j, i) ∉ L → R j x W → R j x W') → K (A (upd vs i v)) W') →
    if Region.wanted o (yielded ops (A vs).tmps) = true then Oper.wp P o (A vs) W K Q else K ((A vs).put o.dst undef) W
end

section
variable {P : Program} {ops : Array Oper} {Q : Exit → Act → World → Prop} {md : Region.Mode}
/-- The last operation, which may write. -/
def UsLast (P : Program) (Q : Exit → Act → World → Prop) (ops : Array Oper) (R : Nat → Value → World → Prop) (u : Nat → Option Nat) (A : (Nat → Value) → Act) (w : World) (m : Nat) (o : Oper) : Prop :=
  ∀ (vs : Nat → Value) (W : World) (K : Act → World → Prop), Below w.heap.size w W → (∀ i, i < m → u i = none → R i (vs i) W) → (∀ a' W', Q .normal a' W' → K a' W') →
    if Region.wanted o (yielded ops (A vs).tmps) = true then Oper.wp P o (A vs) W K Q else K ((A vs).put o.dst undef) W
end

section
variable {P : Program} {ops : Array Oper} {Q : Exit → Act → World → Prop} {md : Region.Mode}
theorem set_getD {l : Array Bool} {i j : Nat} (h : j ≠ i) : (l.setIfInBounds i true).getD j false = l.getD j false := by
  simp [Array.getD_eq_getD_getElem?, Ne.symm h]
end

section
variable {P : Program} {ops : Array Oper} {Q : Exit → Act → World → Prop} {md : Region.Mode}
theorem set_getD_self {l : Array Bool} {i : Nat} (h : i < l.size) : (l.setIfInBounds i true).getD i false = true := by
  simp [Array.getD, h]
end

section
variable {P : Program} {ops : Array Oper} {Q : Exit → Act → World → Prop} {md : Region.Mode}
theorem getD_not {l : Array Bool} {i : Nat} (h : l.getD i true = false) : l.getD i false = false := by
  rcases Nat.lt_or_ge i l.size with hi | hi
  · simp [Array.getD, hi] at h ⊢; exact h
  · simp [Array.getD, Nat.not_lt.2 hi]
end

section
variable {P : Program} {ops : Array Oper} {Q : Exit → Act → World → Prop} {md : Region.Mode}
theorem use_any (R : Nat → Value → World → Prop) (u : Nat → Option Nat) (L : List (Nat × Nat)) (A : (Nat → Value) → Act) {w : World} (m : Nat) (hb : backB .any ops = true) (hw : waitB ops L = true) (hl : lastB ops m = true)
    (hstep : ∀ i o, i < m → ops[i]? = some o → UsStep P Q ops R u L A w i o) (hlast : ∀ o, ops[m]? = some o → UsLast P Q ops R u A w m o) :
    ∀ (fuel : Nat) (listed : Array Bool) (vs : Nat → Value) (W : World), listed.size = ops.size → listed.toList.count false ≤ fuel → listed.getD m false = false → Closed ops listed → UsInv R u w listed vs W → wpAny P .any ops Q fuel listed (A vs) W
  | 0, listed, vs, W, hs, hc, hm, hcl, hinv => by
    simp only [lastB, Bool.and_eq_true, decide_eq_true_eq] at hl
    have h1 : listed.getD m true = false := by
      have : m < listed.size := by omega
      simp [Array.getD, this] at hm ⊢; exact hm
    obtain ⟨_, h2⟩ := getD_false h1
    have : 0 < listed.toList.count false := List.count_pos_iff.2 (List.mem_of_getElem? h2)
    omega
  | fuel + 1, listed, vs, W, hs, hc, hm, hcl, hinv => by
    have hl' := hl
    simp only [lastB, Bool.and_eq_true, decide_eq_true_eq] at hl'
    obtain ⟨hsz, hla⟩ := hl'
    refine ⟨fun hr => ?_, fun i hi => ?_⟩
    · have := all_listed hb hs hr m (by omega)
      rw [hm] at this; cases this
    · obtain ⟨hli, o, ho, hall⟩ := mem_ready.1 hi
      have hilt := (Array.getElem?_eq_some_iff.1 ho).1
      by_cases him : i = m
      · subst him
        rw [ho] at hla
        have hothers : ∀ j, j < i → listed.getD j false = true := fun j hj => by
          have := List.all_eq_true.1 hla j (List.mem_range.2 hj)
          obtain ⟨e, he, h2⟩ := List.any_eq_true.1 this
          simp only [Bool.and_eq_true, beq_iff_eq] at h2
          obtain ⟨h3, rfl⟩ := h2
          exact hall e (by simpa using he) h3
        refine wpOp_step ho fun K hK => ?_
        refine hlast o ho vs W K hinv.1 (fun j hj hu => hinv.2 j (hothers j hj) fun k hk => by rw [hu] at hk; cases hk) fun a' W' hQ => hK _ _ (wpAny_done (fun j hj => ?_) hQ fuel)
        by_cases hji : j = i
        · subst hji
          exact set_getD_self (by omega)
        · rw [set_getD hji]; exact hothers j (by omega)
      · refine wpOp_step ho fun K hK => ?_
        refine hstep i o (by omega) ho vs W K hinv.1 (fun e he hbd hu => hinv.2 _ (hall e he hbd) fun j hj => ?_) fun v W' hbl hr hkeep => hK _ _ ?_
        · rcases hu with hu | hu
          · rw [hu] at hj; cases hj
          · rw [hu] at hj; cases hj; exact getD_not hli
        refine use_any R u L A m hb hw hl hstep hlast fuel _ (upd vs i v) W' (by simpa using hs) (count_down hli hc) (by rw [set_getD (Ne.symm him)]; exact hm) (fun j o' hj ho' e he hbd => ?_) ⟨hbl, fun j hj hcons => ?_⟩
        · have h1 : listed.getD e.on false = true := by
            by_cases hji : j = i
            · subst hji; rw [ho] at ho'; cases ho'; exact hall e he hbd
            · rw [set_getD hji] at hj; exact hcl j o' hj ho' e he hbd
          by_cases hei : e.on = i
          · rw [hei]; exact set_getD_self (by omega)
          · rw [set_getD hei]; exact h1
        by_cases hji : j = i
        · subst hji
          simpa [upd] using hr
        · rw [set_getD hji] at hj
          simp only [upd, if_neg hji]
          have hne : u j ≠ some i := fun he => by
            have := hcons i he
            rw [set_getD_self (by omega)] at this; cases this
          refine hkeep j _ hji hne (fun k hk hL => ?_) (fun hL => ?_) (hinv.2 j hj fun k hk => ?_)
          · obtain ⟨o2, ho2, e, he, hbd, h2⟩ := waitB_spec hw hL
            rw [ho] at ho2; cases ho2
            have h3 := hall e he hbd
            have h4 : listed.getD k false = true := by
              rcases h2 with rfl | h2
              · exact h3
              · exact hcl.wait hb hw _ h3 h2
            have h5 := hcons k hk
            have hki : k ≠ i := fun hh => hne (hh ▸ hk)
            rw [set_getD hki, h4] at h5; cases h5
          · have h4 := hcl.wait hb hw j hj hL
            rw [getD_not hli] at h4; cases h4
          have h1 := hcons k hk
          by_cases hki : k = i
          · subst hki; exact absurd hk hne
          · rwa [set_getD hki] at h1
end

section
variable {P : Program} {ops : Array Oper} {Q : Exit → Act → World → Prop} {md : Region.Mode}
/-- The region whose last operation (number m) waits for all others and may write, and where u tells who uses up which value. -/
theorem region_use {id : Nat} {a : Act} {w : World} (hm : P.follows .mixedOrders = true) (R : Nat → Value → World → Prop) (u : Nat → Option Nat) (L : List (Nat × Nat)) (A : (Nat → Value) → Act) (vs : Nat → Value) (m : Nat) (ha : a = A vs) (hb : backB .any ops = true) (hw : waitB ops L = true) (hl : lastB ops m = true)
    (hstep : ∀ i o, i < m → ops[i]? = some o → UsStep P Q ops R u L A w.drew i o) (hlast : ∀ o, ops[m]? = some o → UsLast P Q ops R u A w.drew m o) : (Code.region id ops true).wp P Q a w := by
  subst ha
  have hnone : ∀ i, (Array.replicate ops.size false).getD i false = false := fun i => by
    rcases Nat.lt_or_ge i ops.size with h | h
    · simp [Array.getD, h]
    · simp [Array.getD, Nat.not_lt.2 h]
  refine wp_region_any hm (use_any R u L A m hb hw hl hstep hlast ops.size _ vs w.drew (by simp) (by simp) (hnone m) (fun j o hj => by rw [hnone j] at hj; cases hj) ⟨Below.refl _ _, fun i hi => ?_⟩)
  rw [hnone i] at hi; cases hi
end

section
variable {P : Program} {ops : Array Oper} {Q : Exit → Act → World → Prop} {md : Region.Mode}
/-- What is known of an operation that one waits for. -/
theorem dep_use {o : Oper} {R : Nat → Value → World → Prop} {u : Nat → Option Nat} {vs : Nat → Value} {W : World} {i : Nat} (hD : ∀ e ∈ o.after, Region.binds .any e = true → (u e.on = none ∨ u e.on = some i) → R e.on (vs e.on) W) (j : Nat) (h : (o.after.toList.any fun e => Region.binds .any e && e.on == j) = true) (hu : u j = none ∨ u j = some i) : R j (vs j) W := by
  obtain ⟨e, he, h2⟩ := List.any_eq_true.1 h
  simp only [Bool.and_eq_true, beq_iff_eq] at h2
  obtain ⟨h3, rfl⟩ := h2
  exact hD e (by simpa using he) h3 hu
end

section
variable {P : Program} {ops : Array Oper} {Q : Exit → Act → World → Prop} {md : Region.Mode}
/-- An operation that writes nothing that was there. -/
theorem use_plain {R : Nat → Value → World → Prop} {u : Nat → Option Nat} {L : List (Nat × Nat)} {w W : World} {i : Nat} {C : Value → World → Prop} (hR : ∀ i v W W', R i v W → Below W.heap.size W W' → R i v W') (hB : Below w.heap.size w W)
    (hK : ∀ v W', Below w.heap.size w W' → R i v W' → (∀ j x, j ≠ i → u j ≠ some i → (∀ k, u j = some k → (i, k) ∉ L) → (j, i) ∉ L → R j x W → R j x W') → C v W') : ∀ v W', Below W.heap.size W W' → R i v W' → C v W' :=
  fun v W' hb hr => hK v W' (hB.trans (hb.mono hB.size)) hr fun j x _ _ _ _ h => hR j x W W' h hb
end

section
variable {P : Program} {ops : Array Oper} {Q : Exit → Act → World → Prop}
/-- Operation j waits for operation i. -/
def waitsB (ops : Array Oper) (i j : Nat) : Bool := match ops[j]? with | some o => o.after.toList.any (fun e => Region.binds .any e && e.on == i) | none => false
end

section
variable {P : Program} {ops : Array Oper} {Q : Exit → Act → World → Prop}
theorem waits_spec {i j : Nat} (h : waitsB ops i j = true) : ∃ o, ops[j]? = some o ∧ ∃ e ∈ o.after, Region.binds .any e = true ∧ e.on = i := by
  unfold waitsB at h
  split at h
  · rename_i o ho
    obtain ⟨e, he, h2⟩ := List.any_eq_true.1 h
    simp only [Bool.and_eq_true, beq_iff_eq] at h2
    exact ⟨o, ho, e, by simpa using he, h2.1, h2.2⟩
  · cases h
end

section
variable {P : Program} {ops : Array Oper} {Q : Exit → Act → World → Prop}
def StStep0 (P : Program) (Q : Exit → Act → World → Prop) (ops : Array Oper) (R : Nat → Value → World → Prop) (A : (Nat → Value) → Act) (vs0 : Nat → Value) (w : World) (i : Nat) (o : Oper) : Prop :=
  ∀ (vs : Nat → Value) (W : World) (K : Act → World → Prop), Below w.heap.size w W → (∀ e ∈ o.after, Region.binds .any e = true → R e.on (vs e.on) W) → (∀ j, waitsB ops i j = true → vs j = vs0 j) →
    (∀ v W', Below W.heap.size W W' → R i v W' → K (A (upd vs i v)) W') →
    if Region.wanted o (yielded ops (A vs).tmps) = true then Oper.wp P o (A vs) W K Q else K ((A vs).put o.dst undef) W
end

section
variable {P : Program} {ops : Array Oper} {Q : Exit → Act → World → Prop}
theorem stable_any0 (R : Nat → Value → World → Prop) (A : (Nat → Value) → Act) (vs0 : Nat → Value) {w : World} (hb : backB .any ops = true) (hR : ∀ i v W W', R i v W → Below W.heap.size W W' → R i v W')
    (hstep : ∀ i o, ops[i]? = some o → StStep0 P Q ops R A vs0 w i o)
    (hfin : ∀ vs W, Below w.heap.size w W → (∀ i, i < ops.size → R i (vs i) W) → Q .normal (A vs) W) :
    ∀ (fuel : Nat) (listed : Array Bool) (vs : Nat → Value) (W : World), listed.size = ops.size → listed.toList.count false ≤ fuel → StInv R w listed vs W → (∀ i, listed.getD i false = false → vs i = vs0 i) →
      (∀ j o, ops[j]? = some o → listed.getD j false = true → ∀ e ∈ o.after, Region.binds .any e = true → listed.getD e.on false = true) → wpAny P .any ops Q fuel listed (A vs) W
  | 0, listed, vs, W, hs, hc, hinv, _, _ => by
    have hno : ∀ j, ¬ listed.getD j true = false := fun j h => by
      obtain ⟨_, h2⟩ := getD_false h
      have : 0 < listed.toList.count false := List.count_pos_iff.2 (List.mem_of_getElem? h2)
      omega
    have hr : Region.ready .any ops listed = [] := List.eq_nil_iff_forall_not_mem.2 fun j hj => hno j (mem_ready.1 hj).1
    exact ⟨hr, hfin vs W hinv.1 fun i hi => hinv.2 i (all_listed hb hs hr i hi)⟩
  | fuel + 1, listed, vs, W, hs, hc, hinv, hun, hcl => by
    refine ⟨fun hr => hfin vs W hinv.1 fun i hi => hinv.2 i (all_listed hb hs hr i hi), fun i hi => ?_⟩
    obtain ⟨hl, o, ho, hall⟩ := mem_ready.1 hi
    have hli : listed.getD i false = false := by
      obtain ⟨h1, h2⟩ := getD_false hl
      simp [Array.getD, h1] at hl ⊢
      exact hl
    have hmono : ∀ j, listed.getD j false = true → (listed.setIfInBounds i true).getD j false = true := fun j hj => by
      by_cases hji : j = i
      · subst hji; rw [hli] at hj; cases hj
      · have : (listed.setIfInBounds i true).getD j false = listed.getD j false := by
          simp [Array.getD_eq_getD_getElem?, Ne.symm hji]
        rw [this]; exact hj
    refine wpOp_step ho fun K hK => ?_
    refine hstep i o ho vs W K hinv.1 (fun e he hbd => hinv.2 _ (hall e he hbd)) (fun j hj => ?_) fun v W' hbl hr => hK _ _ ?_
    · obtain ⟨o', ho', e, he, hbd, hon⟩ := waits_spec hj
      refine hun j ?_
      cases hlj : listed.getD j false with
      | false => rfl
      | true =>
        have := hcl j o' ho' hlj e he hbd
        rw [hon, hli] at this
        cases this
    refine stable_any0 R A vs0 hb hR hstep hfin fuel _ (upd vs i v) W' (by simpa using hs) (count_down hl hc) ⟨hinv.1.trans (hbl.mono hinv.1.size), fun j hj => ?_⟩ (fun j hj => ?_) (fun j o' ho' hj e he hbd => ?_)
    · by_cases hji : j = i
      · subst hji
        simpa [upd] using hr
      · have hj' : listed.getD j false = true := by
          have : (listed.setIfInBounds i true).getD j false = listed.getD j false := by
            simp [Array.getD_eq_getD_getElem?, Ne.symm hji]
          rwa [this] at hj
        simp only [upd, if_neg hji]
        exact hR j _ W W' (hinv.2 j hj') hbl
    · by_cases hji : j = i
      · subst hji
        obtain ⟨h1, _⟩ := getD_false hl
        simp [Array.getD, h1] at hj
      · have : (listed.setIfInBounds i true).getD j false = listed.getD j false := by
          simp [Array.getD_eq_getD_getElem?, Ne.symm hji]
        rw [this] at hj
        simp only [upd, if_neg hji]
        exact hun j hj
    · by_cases hji : j = i
      · subst hji
        rw [ho] at ho'
        cases ho'
        exact hmono _ (hall e he hbd)
      · have : (listed.setIfInBounds i true).getD j false = listed.getD j false := by
          simp [Array.getD_eq_getD_getElem?, Ne.symm hji]
        rw [this] at hj
        exact hmono _ (hcl j o' ho' hj e he hbd)
end

section
variable {P : Program} {ops : Array Oper} {Q : Exit → Act → World → Prop}
theorem region_stable0 {id : Nat} {a : Act} {w : World} (hm : P.follows .mixedOrders = true) (R : Nat → Value → World → Prop) (A : (Nat → Value) → Act) (vs : Nat → Value) (ha : a = A vs) (hb : backB .any ops = true)
    (hR : ∀ i v W W', R i v W → Below W.heap.size W W' → R i v W')
    (hstep : ∀ i o, ops[i]? = some o → StStep0 P Q ops R A vs w.drew i o)
    (hfin : ∀ vs W, Below w.drew.heap.size w.drew W → (∀ i, i < ops.size → R i (vs i) W) → Q .normal (A vs) W) : (Code.region id ops true).wp P Q a w := by
  subst ha
  have hno : ∀ i, (Array.replicate ops.size false).getD i false = false := fun i => by
    rcases Nat.lt_or_ge i ops.size with h | h
    · simp [Array.getD, h]
    · simp [Array.getD, Nat.not_lt.2 h]
  refine wp_region_any hm (stable_any0 R A vs hb hR hstep hfin ops.size _ vs w.drew (by simp) ?_ ⟨Below.refl _ _, fun i hi => ?_⟩ (fun _ _ => rfl) (fun j o _ hj => ?_))
  · simp
  · exfalso
    have := hno i
    rw [this] at hi; cases hi
  · exfalso
    have := hno j
    rw [this] at hj; cases hj
end

/-- A copy of rows. -/
theorem app_rows {ops : Array Oper} {rest : List Oper} {o : Oper} {a : Act} {Q : Exit → Act → World → Prop} {w : World} (hgd : o.guard = none) (s x : Operand)
    (ho : o.op = .call { callee := .builtin .append, args := #[s, x], argTypes := #[23, 23] })
    (base : Nat) (v : Value) (hown : w.ownsRow base 22 1 v 0 []) (hs : a.eval s = v) (ao : Option Addr) (cap b off n : Nat) (V : Nat → Value) (hsrc : ArrAt w ao cap b off n V) (h1 : ∀ j, (V j).oneCell' = true) (hx : a.eval x = .slice ao n cap)
    (hn : n ≤ 5864062014000) (hbase : base ≤ w.heap.size)
    (h : ∀ v' w', w'.ownsRow base 22 1 v' n ((List.range n).map V) → w.grownBy w' v.ownBlock → Moved w v v' → wpList Try.prog ops Q rest (a.put o.dst v') w') :
    wpList Try.prog ops Q (o :: rest) a w :=
  wpList_appA hgd s x _ _ 24 _ ho Try.underlying23 info_ints rfl base v 0 _ hs hown ao cap b off n V hx hsrc h1 (by omega) (by decide) hbase fun v' w' h1 h2 h3 => h v' w' (by simpa using h1) h2 h3

theorem Fr.own {w wr : World} {cs : Array Value} (h : Fr w wr cs) {g j : Nat} (hg : w.heap.size + 2 ≤ g) (v : Value) : Fr w (wr.setCell ⟨g, j, none⟩ v) cs :=
  h.step ((Below.refl _ _).setCell hg v)

theorem Fr.cells {w wr : World} {x y z : Value} (h : Fr w wr #[x, y, z]) : (wr.cell? ⟨w.heap.size, 0, none⟩ = some x ∧ wr.cell? ⟨w.heap.size, 1, none⟩ = some y ∧ wr.cell? ⟨w.heap.size, 2, none⟩ = some z) ∧ wr.frozen? ⟨w.heap.size, 0, none⟩ = false ∧ wr.frozen? ⟨w.heap.size, 1, none⟩ = false ∧ wr.frozen? ⟨w.heap.size, 2, none⟩ = false :=
  ⟨⟨h.bx.cell 0 rfl, h.bx.cell 1 rfl, h.bx.cell 2 rfl⟩, frozen_of_row _ _ 0 _ _ h.bx.bx, frozen_of_row _ _ 1 _ _ h.bx.bx, frozen_of_row _ _ 2 _ _ h.bx.bx⟩

theorem Fr.res {w wr : World} {cs : Array Value} (h : Fr w wr cs) : (wr.cell? ⟨w.heap.size + 1, 0, none⟩ = some (.slice none 0 0) ∧ wr.cell? ⟨w.heap.size + 1, 1, none⟩ = some (.slice none 0 0) ∧ wr.cell? ⟨w.heap.size + 1, 2, none⟩ = some (.slice none 0 0)) ∧ wr.frozen? ⟨w.heap.size + 1, 0, none⟩ = false ∧ wr.frozen? ⟨w.heap.size + 1, 1, none⟩ = false ∧ wr.frozen? ⟨w.heap.size + 1, 2, none⟩ = false :=
  ⟨⟨cell_of_row _ _ 0 _ _ _ h.rc, cell_of_row _ _ 1 _ _ _ h.rc, cell_of_row _ _ 2 _ _ _ h.rc⟩, frozen_of_row _ _ 0 _ _ h.rc, frozen_of_row _ _ 1 _ _ h.rc, frozen_of_row _ _ 2 _ _ h.rc⟩

theorem gameEnd {w wf : World} {x0 x1 x2 : Value} {g : Gm} (hb : Below w.heap.size w wf) (h0 : IsInts wf x0 g.owner) (h1 : IsInts wf x1 g.prio) (h2 : IsRows wf x2 g.succ) : NewGame g w (.returned (.agg #[x0, x1, x2])) wf := ⟨_, rfl, ⟨_, _, _, rfl, h0, h1, h2⟩, hb⟩

theorem wp_app_ints {o : Oper} {a : Act} {K : Act → World → Prop} {Q : Exit → Act → World → Prop} (w : World) (s x : Operand)
    (ho : o.op = .call { callee := .builtin .append, args := #[s, x], argTypes := #[22, 22] })
    (base : Nat) (v v2 : Value) (l l2 : List Int) (hs : a.eval s = v) (hown : OI w base v l) (hx : a.eval x = v2) (hsrc : IsInts w v2 l2)
    (hn : l.length + l2.length ≤ 17592186043904) (hbase : base ≤ w.heap.size)
    (h : ∀ v' w', OI w' base v' (l ++ l2) → w.grownBy w' v.ownBlock → K (a.put o.dst v') w') : Oper.wp Try.prog o a w K Q := by
  obtain ⟨i, hi, hz0, hz1, hz2⟩ := info_parts info_int
  obtain ⟨⟨ao, cap, b, off, rfl, g⟩, -⟩ := hsrc
  have e : (List.range l2.length).map (ivF l2) = l2.map (Value.int .i64) := by
    apply List.ext_getElem (by simp)
    intro j h1 h2
    have : j < l2.length := by simpa using h1
    simp [ivF, this]
  cases ao with
  | none =>
    have hm0 : l2.length = 0 := by rcases Nat.eq_zero_or_pos l2.length with h0 | h0; exact h0; have := g.ad h0; cases this
    have hl2 := List.eq_nil_of_length_eq_zero hm0
    subst hl2
    obtain rfl := g.nc rfl
    have hrun := run_append_owned_none (P := Try.prog) (w := w) base 22 o.type 3 i 1 Try.underlying22 hi v l.length _ hown
    unfold Oper.wp execOp
    simp only [ho, resolve, invoke, builtin, Sem.run_bind, Sem.run_pure, Result.andThen_ok, List.map_toArray, List.map_cons, List.map_nil, hs, hx]
    simp only [List.length_nil, hrun]
    exact h _ _ (by simpa using hown) (grown_refl _ _)
  | some ad =>
    obtain ⟨v', w', hr, h2, h3, h4⟩ := run_append_own (P := Try.prog) w base 22 o.type 3 i _ 1 8 Try.underlying22 hi hz0 hz1 hz2 rfl (by decide) v l.length _ hown ad l2.length cap ((List.range l2.length).map (ivF l2)) (by simp) (by
      intro j u hj
      have hjm : j < l2.length := by
        rcases Nat.lt_or_ge j l2.length with h | h
        · exact h
        · simp [Nat.not_lt.2 h] at hj
      have hadd := g.ad (by omega)
      simp only [Option.some.injEq] at hadd
      subst hadd
      have : ivF l2 j = u := by simpa [hjm] using hj
      subst this
      have h2 := g.el j hjm
      unfold Addr.add
      split
      · subst j; exact h2
      · exact h2) (by
      intro u hu
      obtain ⟨j, _, rfl⟩ := List.mem_map.1 hu
      rfl) (by simp only [maxLen]; omega) (by omega) hbase
    unfold Oper.wp execOp
    simp only [ho, resolve, invoke, builtin, Sem.run_bind, Sem.run_pure, Result.andThen_ok, List.map_toArray, List.map_cons, List.map_nil, hs, hx, hr]
    refine h _ _ ?_ h3
    unfold OI
    rw [e] at h2
    simpa using h2

theorem OB_emptyN (w : World) (n : Nat) (h : n = w.heap.size) : OB (w.alloc (.cells #[] 4)) n (.slice (some ⟨n, 0, none⟩) 0 0) [] := h ▸ World.ownsRow_made w #[] 0 (Nat.le_refl _) (by simp [maxLen]) rfl

def swK (g : Gm) (k : Nat) : Gm := ⟨(g.owner.take k).map (1 - ·), (g.prio.take k).map (· + 1), g.succ.take k⟩

theorem swK_succ (g : Gm) (k : Nat) (h0 : k < g.owner.length) (h1 : k < g.prio.length) (h2 : k < g.succ.length) :
    swK g (k + 1) = ⟨(swK g k).owner ++ [1 - g.owner.getD k 0], (swK g k).prio ++ [g.prio.getD k 0 + 1], (swK g k).succ ++ [g.succ.getD k []]⟩ := by
  unfold swK
  rw [List.take_succ_eq_append_getElem h0, List.take_succ_eq_append_getElem h1, List.take_succ_eq_append_getElem h2, getD_lt _ _ _ h0, getD_lt _ _ _ h1, getD_lt _ _ _ h2, List.map_append, List.map_append]
  rfl

def swapR (g : Gm) : Gm := if validB g && inB 29999 g.prio then swapG g else ⟨[], [], []⟩

theorem nilGame_end {g : Gm} {w wr : World} {cs : Array Value} {a b c : Value} (HR : g = ⟨[], [], []⟩) (hF : Fr w wr cs) :
    NewGame g w (.returned (.agg #[.slice none 0 0, .slice none 0 0, .slice none 0 0])) (((wr.setCell ⟨w.heap.size + 1, 0, none⟩ a).setCell ⟨w.heap.size + 1, 1, none⟩ b).setCell ⟨w.heap.size + 1, 2, none⟩ c) := by
  rw [HR]
  exact ⟨_, rfl, ⟨_, _, _, rfl, ints_nil _, ints_nil _, rows_nil _⟩, below_three hF.bx.bl (by omega)⟩

/-- A new value in new memory among the others. -/
theorem GB.addNew {w w' : World} {B z : Nat} {v0 v1 v2 u : Value} {vals others : List Value} {gm : Gm} (h : GB w B z v0 v1 v2 vals gm others) (hb : Below w.heap.size w w')
    (hu : ∀ g, u.ownBlock = some g → w.heap.size ≤ g) (hu2 : ∀ g, u.ownBlock = some g → g < w'.heap.size) : GB w' B z v0 v1 v2 vals gm (u :: others) :=
  { h.below hb with
    sep := by
      have : Sep (u :: (boxV z :: v0 :: v1 :: v2 :: (vals ++ others))) := h.sep.cons hu h.lts
      exact this.perm (List.perm_middle (l₁ := boxV z :: v0 :: v1 :: v2 :: vals) (a := u) (l₂ := others)).symm
    lt := fun x hx g hg => by
      rcases List.mem_cons.1 hx with rfl | hx
      · exact hu2 g hg
      · exact Nat.lt_of_lt_of_le (h.lt x hx g hg) hb.size }

/-- 'append' of a row in a region that draws its order. -/
theorem wp_app_row {o : Oper} {a : Act} {K : Act → World → Prop} {Q : Exit → Act → World → Prop} (w : World) (s x : Operand) (u : Value)
    (ho : o.op = .call { callee := .builtin .append, args := #[s, x], argTypes := #[23, 23] })
    (base : Nat) (v : Value) (n : Nat) (l : List Value) (hs : a.eval s = v) (hown : w.ownsRow base 22 1 v n l) (hx : a.eval x = .slice (some ⟨w.heap.size, 0, none⟩) 1 1) (hu : u.oneCell' = true)
    (hn : n < 5864062014000) (hbase : base ≤ w.heap.size)
    (h : ∀ v' w', w'.ownsRow base 22 1 v' (n + 1) (l ++ [u]) → w.grownBy w' v.ownBlock → Moved w v v' → K (a.put o.dst v') w') :
    Oper.wp Try.prog o a (w.alloc (.cells #[u] 22)) K Q := by
  obtain ⟨i0, hi0, hz0, hz1, hz2⟩ := info_parts info_ints
  refine wp_append_lies _ s x _ ho base _ i0 _ 1 24 Try.underlying23 hi0 hz0 hz1 hz2 rfl (by decide) v n _ hs (hown.alloc _) ⟨w.heap.size, 0, none⟩ 1 1 [u] hx rfl (World.news_of_block (cs := #[u]) (t := 22) (fr := (0, 0)) (heap_alloc_new w _)) (by simpa using hu) (by omega) (by simp only [maxLen]; omega) (by omega) (by simp; omega) (w.heap.size + 1) (by simp) ?_
  intro g cap w' h1 h2 h3 h4
  refine h _ _ (by simpa using h1) ⟨h2.os, h2.tape, h2.output, by have := h2.size; simp at this; omega, fun k hk hr => ?_⟩ (fun k hk => ?_)
  · rw [h2.block k (by simp; omega) hr]; exact heap_alloc_old w _ hk
  · obtain rfl : g = k := by simpa [Value.ownBlock] using hk
    rcases h3 with e | e
    · exact .inl e
    · exact .inr (by omega)

theorem swap_bounds {g : Gm} (hv : validB g = true) (k : Nat) (hk : k < g.owner.length) : (0 ≤ g.owner.getD k 0 ∧ g.owner.getD k 0 ≤ 1) ∧ (0 ≤ g.prio.getD k 0 ∧ g.prio.getD k 0 ≤ 30000) := ⟨(valid_at hv k hk).1, (valid_at hv k hk).2.1⟩

set_option maxRecDepth 100000 in
set_option maxHeartbeats 8000000 in
theorem Swap_c (w : World) (vg : Value) (g : Gm) (hg : IsGame w vg g) (hS : ∀ i, (g.succ.getD i []).length ≤ 1000) :
    Calls Try.prog 27 #[vg] w (NewGame (swapR g) w) := by
  have hgx := hg
  obtain ⟨v0, v1, v2, rfl, i0, i1, i2⟩ := hg
  have HI1 := Lib.hid i1
  obtain ⟨⟨ao0, cap0, b0, off0, rfl, g0⟩, i0⟩ := i0
  obtain ⟨⟨ao1, cap1, b1, off1, rfl, g1⟩, i1⟩ := i1
  obtain ⟨V, ⟨ao2, cap2, b2, off2, rfl, g2⟩, hr⟩ := i2
  cases hv : validB g with
  | false =>
    have HR : Hid (swapR g = ⟨[], [], []⟩) := by show _ = _; simp [swapR, hv]
    go_enter Try.func27, Try.ntmps27
    go_wp2_with fail
    refine (AValid_c _ _ g (hgx.below (by repeat (first | exact Below.refl _ _ | assumption | (refine belA ?_ _) | (refine belD ?_ _))))).mono ?_
    rintro e w1 ⟨rfl, hb1⟩
    rw [hv]
    have hF : Fr w w1 #[Value.slice ao0 g.owner.length cap0, Value.slice ao1 g.prio.length cap1, Value.slice ao2 g.succ.length cap2] :=
      ⟨Boxed.start ((bel_box _).trans (hb1.mono (by simp))), (hb1.block _ (by simp)).trans (by (repeat (rw [alloc_get]; first | rw [if_pos (by first | (simp; done) | (simp; omega))] | rw [if_neg (by first | (simp; done) | (simp; omega))])); (try rfl))⟩
    obtain ⟨⟨z0, z1, z2⟩, y0, y1, y2⟩ := hF.res
    clear hb1
    go_wp2
    (have hc3 := three_set (a := Value.slice none 0 0) (b := Value.slice none 0 0) (c := Value.slice none 0 0) hF.rc); (have c0 := cell_of_row _ _ 0 _ _ _ hc3); (have c1 := cell_of_row _ _ 1 _ _ _ hc3); (have c2 := cell_of_row _ _ 2 _ _ _ hc3); (refine bodyPost_ret (v := .agg #[Value.slice none 0 0, Value.slice none 0 0, Value.slice none 0 0]) (by simp [results, Try.results27, go_sem, c0, c1, c2]) rfl ?_)
    exact nilGame_end HR.out hF
  | true =>
    cases hq : inB 29999 g.prio with
    | false =>
      have HR : Hid (swapR g = ⟨[], [], []⟩) := by show _ = _; simp [swapR, hq]
      go_enter Try.func27, Try.ntmps27
      go_wp2_with fail
      refine (AValid_c _ _ g (hgx.below (by repeat (first | exact Below.refl _ _ | assumption | (refine belA ?_ _) | (refine belD ?_ _))))).mono ?_
      rintro e w1 ⟨rfl, hb1⟩
      rw [hv]
      have hF : Fr w w1 #[Value.slice ao0 g.owner.length cap0, Value.slice ao1 g.prio.length cap1, Value.slice ao2 g.succ.length cap2] :=
        ⟨Boxed.start ((bel_box _).trans (hb1.mono (by simp))), (hb1.block _ (by simp)).trans (by (repeat (rw [alloc_get]; first | rw [if_pos (by first | (simp; done) | (simp; omega))] | rw [if_neg (by first | (simp; done) | (simp; omega))])); (try rfl))⟩
      obtain ⟨⟨d0, d1, d2⟩, -⟩ := hF.cells
      clear hb1
      go_wp2_with fail
      refine (within_c _ _ [g.prio] _ (IsRows.one _ _ (HI1.out.below hF.bx.bl) (by simp))).mono ?_
      rintro e w2 ⟨rfl, n2, rfl⟩
      rw [show withinB 29999 [g.prio] = false from by simp [withinB, hq]]
      have hF2 := hF.step (((bel_box (.cells #[Value.slice ao1 g.prio.length cap1] 22)).mono hF.lt).trans (below_draws _ _ n2))
      clear hF d0 d1 d2
      generalize ((w1.alloc (.cells #[Value.slice ao1 g.prio.length cap1] 22)).drewN n2) = w3 at *
      obtain ⟨⟨z0, z1, z2⟩, y0, y1, y2⟩ := hF2.res
      go_wp2
      (have hc3 := three_set (a := Value.slice none 0 0) (b := Value.slice none 0 0) (c := Value.slice none 0 0) hF2.rc); (have c0 := cell_of_row _ _ 0 _ _ _ hc3); (have c1 := cell_of_row _ _ 1 _ _ _ hc3); (have c2 := cell_of_row _ _ 2 _ _ _ hc3); (refine bodyPost_ret (v := .agg #[Value.slice none 0 0, Value.slice none 0 0, Value.slice none 0 0]) (by simp [results, Try.results27, go_sem, c0, c1, c2]) rfl ?_)
      exact nilGame_end HR.out hF2
    | true =>
      have hn0 := g0.nb
      have HR : Hid (swapR g = swapG g) := by show _ = _; simp [swapR, hv, hq]
      obtain ⟨la, lb, lc⟩ := valid_lens hv
      have HON : Hid (g.owner.length ≤ 3000 ∧ g.prio.length = g.owner.length ∧ g.succ.length = g.owner.length) := ⟨la, lb, lc⟩
      have HVB := Lib.hid (fun k hk => swap_bounds hv k hk)
      have HS := Lib.hid hS
      have HRW := Lib.hid hr
      have hpr : ∀ x ∈ g.prio, x ≤ 29999 := fun x hx => by
        have := List.all_eq_true.1 hq x hx
        simp at this; omega
      have HPR := Lib.hid hpr
      clear hpr hS la lb lc hr
      go_enter Try.func27, Try.ntmps27
      go_wp2_with fail
      refine (AValid_c _ _ g (hgx.below (by repeat (first | exact Below.refl _ _ | assumption | (refine belA ?_ _) | (refine belD ?_ _))))).mono ?_
      rintro e w1 ⟨rfl, hb1⟩
      rw [hv]
      have hF : Fr w w1 #[Value.slice ao0 g.owner.length cap0, Value.slice ao1 g.prio.length cap1, Value.slice ao2 g.succ.length cap2] :=
        ⟨Boxed.start ((bel_box _).trans (hb1.mono (by simp))), (hb1.block _ (by simp)).trans (by (repeat (rw [alloc_get]; first | rw [if_pos (by first | (simp; done) | (simp; omega))] | rw [if_neg (by first | (simp; done) | (simp; omega))])); (try rfl))⟩
      obtain ⟨⟨d0, d1, d2⟩, -⟩ := hF.cells
      clear hb1 hv
      go_wp2_with fail
      refine (within_c _ _ [g.prio] _ (IsRows.one _ _ (HI1.out.below hF.bx.bl) (by simp))).mono ?_
      rintro e w2 ⟨rfl, n2, rfl⟩
      rw [show withinB 29999 [g.prio] = true from by simp [withinB, hq]]
      have hF2 := hF.step (((bel_box (.cells #[Value.slice ao1 g.prio.length cap1] 22)).mono hF.lt).trans (below_draws _ _ n2))
      clear hF d0 d1 d2 hq
      generalize ((w1.alloc (.cells #[Value.slice ao1 g.prio.length cap1] 22)).drewN n2) = w3 at *
      obtain ⟨B, hBe⟩ : ∃ B, B = w.heap.size + 2 := ⟨_, rfl⟩
      have hB3 : B ≤ w3.heap.size := by have := hF2.lt; omega
      have hGB := GB.start (B := B) (others := []) (w := w3) hB3 List.Pairwise.nil (fun u hu => absurd hu (by simp))
      have d0 := (hF2.step (hBe ▸ (bel_box (.cells #[.slice none 0 0, .slice none 0 0, .slice none 0 0] 25)).mono hB3)).cells.1.1
      go_wp2
      clear d0
      go_loopg [19] g.owner.length (fun gh i wr => ∃ (k : Nat) (x0 x1 x2 : Value) (vals : List Value), gh = g.owner.length - k ∧ i = .int .i64 k ∧ k ≤ g.owner.length ∧ Below B w3 wr ∧ GB wr B w3.heap.size x0 x1 x2 vals (swK g k) [])
      case atStart => exact ⟨0, _, _, _, _, by omega, rfl, by omega, (bel_box _).mono hB3, hGB⟩
      case round =>
        obtain ⟨k, x0, x1, x2, vals, hgk, rfl, hk, hB, hG⟩ := hrel
        have HG := Lib.hid hgk
        clear hgk hGB
        have hFw := hF2.step (hBe ▸ hB)
        by_cases hlt : k < g.owner.length
        · have hn1 : k < g.prio.length := by rw [HON.out.2.1]; exact hlt
          have hn2 : k < g.succ.length := by rw [HON.out.2.2]; exact hlt
          obtain rfl := g2.ad (by omega)
          obtain rfl := g0.ad (by omega)
          obtain rfl := g1.ad (by omega)
          have hcv := g2.el k hn2
          obtain ⟨⟨ao3, cap3, b3, off3, hv3, g3⟩, hri⟩ := HRW.out k hn2
          have HROW : Hid (IsInts w (.slice ao3 (g.succ.getD k []).length cap3) (g.succ.getD k [])) := ⟨⟨ao3, cap3, b3, off3, rfl, g3⟩, hri⟩
          rw [hv3] at hcv
          have hsl := HS.out k
          have HGN := Lib.hid (swK_succ g k hlt hn1 hn2)
          have how := g0.el k hlt
          have hpw := g1.el k hn1
          unfold ivF at how hpw
          obtain ⟨⟨ob0, ob1⟩, ⟨pb0, pb1⟩⟩ := HVB.out k hlt
          have hGL0 : (swK g k).owner.length ≤ 3000 := by have := HON.out.1; simp [swK]; omega
          have hGL1 : (swK g k).prio.length ≤ 3000 := by have := HON.out; simp [swK]; omega
          have hGL2 : (swK g k).succ.length ≤ 3000 := by have := HON.out; simp [swK]; omega
          clear hri hv3 g3
          generalize g.succ.getD k [] = row at *
          generalize g.owner.getD k 0 = ow at *
          generalize g.prio.getD k 0 = pw at *
          generalize swK g k = gm at *
          have hBr : B ≤ wr.heap.size := Nat.le_trans hB3 hB.size
          have HC0 : Hid (∀ W : World, Below w.heap.size w W → W.cell? ⟨b0, off0 + k, none⟩ = some (.int .i64 ow)) := fun W hW => cellB hW how
          have HC1 : Hid (∀ W : World, Below w.heap.size w W → W.cell? ⟨b1, off1 + k, none⟩ = some (.int .i64 pw)) := fun W hW => cellB hW hpw
          have HC2 : Hid (∀ W : World, Below w.heap.size w W → W.cell? ⟨b2, off2 + k, none⟩ = some (.slice ao3 row.length cap3)) := fun W hW => cellB hW hcv
          clear how hpw hcv
          obtain ⟨w5, rfl⟩ : ∃ w5 : World, w5 = wr := ⟨_, rfl⟩
          have HGx := Lib.hid hG
          have HFx := Lib.hid hFw
          have HBo := Lib.hid hB
          have hi0 : (0 : Int) ≤ k := Int.natCast_nonneg _
          have hi1 : (k : Int) < g.owner.length := by omega
          have q0 : w5.cell? ⟨w3.heap.size, 0, none⟩ = some x0 := cell_of_row _ _ 0 _ _ _ hG.box
          have d0 := hFw.cells.1.1
          have c0 := HC0.out _ hFw.bx.bl
          have hzl := hG.zlt
          have hGo : OI w5 B x0 gm.owner := hG.o
          clear hG hFw hB
          have hwr0 : IntKind.i64.wrap (1 - ow) = 1 - ow := IntWalk.i64_in _ ⟨by omega, by omega⟩
          have hwr1 : IntKind.i64.wrap (pw + 1) = pw + 1 := IntWalk.i64_in _ ⟨by omega, by omega⟩
          go_upto_region 7 with (fail)
          go_cut [] (fun wx => ∃ (y0 : Value) (wz : World), wz = wx ∧ GB wz B w3.heap.size y0 x1 x2 vals ⟨gm.owner ++ [1 - ow], gm.prio, gm.succ⟩ [] ∧ Kept B [] w5 wz)
          case first =>
            go_region_law ((rw [if_pos (by rfl)]; refine wp_app_int w5 _ _ (1 - ow) (by rfl) B x0 _ (by rfl) hGo (by rfl) (by omega) hBr ?_; intro y0 w6 hown6 hg6 hmv6; obtain ⟨aoy, capy, hvy⟩ := hown6.slice; rw [List.length_append, List.length_singleton] at hvy; subst hvy; have hb6 : Below B w5 w6 := (Below.refl _ _).grown hg6 hBr (fun g hg => HGx.out.o.ge g hg); have hF6 := HFx.out.step (hBe ▸ hb6); have HST := Lib.hid (HGx.out.stepO hown6 hg6 hmv6 hBr); have k0 : w6.cell? ⟨w3.heap.size, 0, none⟩ = some x0 := cell_of_row _ _ 0 _ _ _ HST.out.1; have f0 : w6.frozen? ⟨w3.heap.size, 0, none⟩ = false := frozen_of_row _ _ 0 _ _ HST.out.1))
            all_goals
              go_wp2_with fail
              go_meet
              case rel => exact ⟨_, _, rfl, HST.out.2⟩
          case rest =>
            obtain ⟨y1, w7, rfl, hG7, hK7⟩ := hcut
            clear q0 d0 c0 hzl hi1 hGo
            have HF7 := Lib.hid (HFx.out.step (hBe ▸ hK7.bl))
            have HBl7 := Lib.hid (HBo.out.trans hK7.bl)
            have hBs7 : B ≤ w7.heap.size := Nat.le_trans hBr hK7.bl.size
            have HG7 := Lib.hid hG7
            clear hG7 hK7 HFx HBo HGx hBr
            have q0 : w7.cell? ⟨w3.heap.size, 1, none⟩ = some x1 := cell_of_row _ _ 1 _ _ _ HG7.out.box
            have d0 := HF7.out.cells.1.2.1
            have c0 := HC1.out _ HF7.out.bx.bl
            have hzl := HG7.out.zlt
            have hi1 : (k : Int) < g.prio.length := by omega
            have hGo : OI w7 B x1 gm.prio := HG7.out.p
            go_wp2_with fail
            go_upto_region 8 with (fail)
            go_cut [] (fun wx => ∃ (y0 : Value) (wz : World), wz = wx ∧ GB wz B w3.heap.size y1 y0 x2 vals ⟨gm.owner ++ [1 - ow], gm.prio ++ [pw + 1], gm.succ⟩ [] ∧ Kept B [] w7 wz)
            case first =>
              go_region_law ((rw [if_pos (by rfl)]; refine wp_app_int w7 _ _ (pw + 1) (by rfl) B x1 _ (by rfl) hGo (by rfl) (by omega) hBs7 ?_; intro y0 w6 hown6 hg6 hmv6; obtain ⟨aoy, capy, hvy⟩ := hown6.slice; rw [List.length_append, List.length_singleton] at hvy; subst hvy; have HST := Lib.hid (HG7.out.stepP hown6 hg6 hmv6 hBs7); have k0 : w6.cell? ⟨w3.heap.size, 1, none⟩ = some x1 := cell_of_row _ _ 1 _ _ _ HST.out.1; have f0 : w6.frozen? ⟨w3.heap.size, 1, none⟩ = false := frozen_of_row _ _ 1 _ _ HST.out.1))
              all_goals
                go_wp2_with fail
                go_meet
                case rel => exact ⟨_, _, rfl, HST.out.2⟩
            case rest =>
              obtain ⟨y2, w8, rfl, hG8, hK8⟩ := hcut
              clear q0 d0 c0 hzl hi1 hGo
              have HF8 := Lib.hid (HF7.out.step (hBe ▸ hK8.bl))
              have HBl8 := Lib.hid (HBl7.out.trans hK8.bl)
              have hBs8 : B ≤ w8.heap.size := Nat.le_trans hBs7 hK8.bl.size
              have HG8 := Lib.hid hG8
              have hzl := hG8.zlt
              have q2 : w8.cell? ⟨w3.heap.size, 2, none⟩ = some x2 := cell_of_row _ _ 2 _ _ _ hG8.box
              have d2 := HF8.out.cells.1.2.2
              have c2 := HC2.out _ HF8.out.bx.bl
              have HRI : Hid (IsInts w8 (.slice ao3 row.length cap3) row) := HROW.out.below HF8.out.bx.bl
              have hi1 : (k : Int) < g.succ.length := by omega
              clear hG8 hK8 HF7 HBl7 HG7 hBs7
              go_wp2_with fail
              have HRI8 : Hid (IsInts w8.drew (.slice ao3 row.length cap3) row) := HRI.out.below (Below.drew (Below.refl _ _))
              go_upto_region 9 with (fail)
              clear HRI HROW HPR HRW
              go_region_law (first | ((rw [if_pos (by rfl)]; refine wp_app_row w9 _ _ (.slice ao9 row.length cap9) (by rfl) B x2 _ vals (by rfl) HG9.out.r (by rfl) rfl (by show gm.succ.length < _; omega) hB9 ?_; intro v10 w10 hown10 hg10 hmv10; obtain ⟨ao10, cap10, hv10⟩ := ownsRow_slice hown10; subst hv10; have HST := Lib.hid (HG9.out.stepR HO9.out hown10 hg10 hmv10 hB9); have k0 : w10.cell? ⟨w3.heap.size, 2, none⟩ = some x2 := cell_of_row _ _ 2 _ _ _ HST.out.1; have f0 : w10.frozen? ⟨w3.heap.size, 2, none⟩ = false := frozen_of_row _ _ 2 _ _ HST.out.1)) | ((rw [if_pos (by rfl)]; refine wp_app_ints w8.drew _ _ (by rfl) w8.heap.size (.slice none 0 0) (.slice ao3 row.length cap3) [] row (by rfl) (OI_nil _ _) (by rfl) HRI8.out (by simp; omega) (Nat.le_refl _) ?_; intro v9 w9 hown9 hg9; rw [List.nil_append] at hown9; have hb9 : Below w8.heap.size w8 w9 := (Below.drew (Below.refl _ _)).grown hg9 (Nat.le_refl _) (fun k hk => by cases hk); obtain ⟨ao9, cap9, hv9⟩ := hown9.slice; subst hv9; have HG9 := Lib.hid (HG8.out.addNew hb9 (fun g hg => hown9.ge g hg) hown9.lt'); have HO9 := Lib.hid (hown9.base hBs8); have HB9 := Lib.hid hb9; have q9 : w9.cell? ⟨w3.heap.size, 2, none⟩ = some x2 := cell_of_row _ _ 2 _ _ _ HG9.out.box; have hz9 := HG9.out.zlt; have hB9 : B ≤ w9.heap.size := Nat.le_trans hBs8 hb9.size; clear hb9 hown9 hg9)))
              all_goals
                go_wp2_with fail
                go_roundg (g.owner.length - (k + 1))
                case measure => have := HG.out; omega
                case rel => exact ⟨k + 1, y1, y2, _, _, rfl, by go_num, by omega, HBl8.out.trans ((HB9.out.mono hBs8).trans HST.out.2.2.bl), by rw [HGN.out]; exact HST.out.2.1⟩
        · obtain rfl : k = g.owner.length := by omega
          have HGg := Lib.hid hG
          have HSW : Hid (swK g g.owner.length = swapG g) := by
            show _ = _
            unfold swK swapG
            have h1 := HON.out
            rw [List.take_length, List.take_of_length_le (by omega), List.take_of_length_le (by omega)]
          have hq0 := cell_of_row _ _ 0 _ _ _ hG.box
          have hq1 := cell_of_row _ _ 1 _ _ _ hG.box
          have hq2 := cell_of_row _ _ 2 _ _ _ hG.box
          obtain ⟨oa0, oc0, hx0⟩ := hG.o.slice
          obtain ⟨oa1, oc1, hx1⟩ := hG.p.slice
          obtain ⟨oa2, oc2, hx2⟩ := ownsRow_slice hG.r
          subst hx0 hx1 hx2
          obtain ⟨⟨z0, z1, z2⟩, y0, y1, y2⟩ := hFw.res
          have HBB : Hid (w.heap.size + 1 < B) := by show _ < _; omega
          clear hG hB
          generalize hgm : swK g g.owner.length = gm at *
          go_wp2
          (have hc3 := three_set (a := Value.slice oa0 gm.owner.length oc0) (b := Value.slice oa1 gm.prio.length oc1) (c := Value.slice oa2 gm.succ.length oc2) hFw.rc); (have c0 := cell_of_row _ _ 0 _ _ _ hc3); (have c1 := cell_of_row _ _ 1 _ _ _ hc3); (have c2 := cell_of_row _ _ 2 _ _ _ hc3); (refine bodyPost_ret (v := .agg #[Value.slice oa0 gm.owner.length oc0, Value.slice oa1 gm.prio.length oc1, Value.slice oa2 gm.succ.length oc2]) (by simp [results, Try.results27, go_sem, c0, c1, c2]) rfl ?_)
          rw [HR.out]
          refine ⟨_, rfl, ?_, below_three hFw.bx.bl (by omega)⟩
          have hE := ((HGg.out.setFar HBB.out (j := 0) (u := Value.slice oa0 gm.owner.length oc0)).setFar HBB.out (j := 1) (u := Value.slice oa1 gm.prio.length oc1)).setFar HBB.out (j := 2) (u := Value.slice oa2 gm.succ.length oc2)
          have hgs : gm = swapG g := HSW.out
          rw [← hgs]
          have hl := HON.out
          have e0 : gm.owner.length = g.owner.length := by rw [hgs]; simp [swapG]
          have e1 : gm.prio.length = g.prio.length := by rw [hgs]; simp [swapG]
          have e2 : gm.succ = g.succ := by rw [hgs]; rfl
          have hm : ∀ n, n ≤ 3000 → n ≤ maxN := fun n hn => by simp only [maxN]; omega
          refine hE.is ⟨hm _ (by omega), fun x hx => ?_⟩ ⟨hm _ (by omega), fun x hx => ?_⟩ (hm _ (by rw [e2]; omega)) (fun j hj => ?_)
          · rw [hgs] at hx
            obtain ⟨y, hy, rfl⟩ := List.mem_map.1 hx
            obtain ⟨i, hi, rfl⟩ := List.getElem_of_mem hy
            have := (HVB.out i hi).1
            rw [getD_lt _ _ _ hi] at this
            unfold I64; omega
          · rw [hgs] at hx
            obtain ⟨y, hy, rfl⟩ := List.mem_map.1 hx
            obtain ⟨i, hi, rfl⟩ := List.getElem_of_mem hy
            have := (HVB.out i (by omega)).2
            rw [getD_lt _ _ _ hi] at this
            unfold I64; omega
          · rw [e2] at hj ⊢
            exact ⟨hm _ (Nat.le_trans (HS.out j) (by omega)), (HRW.out j hj).2⟩

theorem mk_rowsI {ops : Array Oper} {rest : List Oper} {o : Oper} {a : Act} {Q : Exit → Act → World → Prop} {w : World} (hgd : o.guard = none) (l c : Operand) (t : TypeId) (ht : Try.prog.underlying t = some (.slice 22))
    (ho : o.op = Op.makeSlice t l c) (base : Nat) (L : Int) (n : Nat) (hl : a.eval l = .int .i64 L) (hc : a.eval c = .int .i64 L) (hL : L = (n : Int)) (hn : n ≤ 11728124028000) (hbase : base ≤ w.heap.size)
    (h : ∀ w', w'.ownsRow base 22 1 (.slice (some ⟨w.heap.size, 0, none⟩) n n) n (List.replicate n (.slice none 0 0)) → w.grownBy w' none → wpList Try.prog ops Q rest (a.put o.dst (.slice (some ⟨w.heap.size, 0, none⟩) n n)) w') :
    wpList Try.prog ops Q (o :: rest) a w :=
  wpList_mk1 hgd l c t _ 24 _ ho ht info_ints rfl base L n hl hc hL (by omega) (by omega) hbase h

theorem Rows.ofNil {W : World} {B ob n : Nat} (h : W.ownsRow B 22 1 (.slice (some ⟨ob, 0, none⟩) n n) n (List.replicate n (.slice none 0 0))) : Rows W B n ob (List.replicate n (.slice none 0 0)) (List.replicate n []) := by
  have hg : ∀ j, j < n → (List.replicate n (Value.slice none 0 0)).getD j undef = .slice none 0 0 := fun j hj => by simp [List.getD, hj]
  have hg2 : ∀ j, j < n → (List.replicate n ([] : List Int)).getD j [] = [] := fun j hj => by simp [List.getD, hj]
  refine ⟨h, fun j hj => ?_, fun i j hi hj _ => ?_, fun j hj => ?_, by simp, by simp⟩
  · rw [hg j hj, hg2 j hj]; exact OI_nil _ _
  · rw [hg i hi]; intro k hk; cases hk
  · rw [hg j hj]; intro hk; cases hk

theorem Rows.is {w : World} {B n ob : Nat} {vals : List Value} {rows : List (List Int)} (h : Rows w B n ob vals rows) (hn : n ≤ 3000) (hl : ∀ j, j < n → (rows.getD j []).length ≤ 3000 ∧ ∀ x ∈ rows.getD j [], I64 x) : IsRows w (.slice (some ⟨ob, 0, none⟩) n n) rows := by
  have hlr := h.lr
  refine ⟨fun j => vals.getD j undef, ?_, fun j hj => (h.e j (by omega)).is (by have := (hl j (by omega)).1; unfold maxN; omega) (hl j (by omega)).2⟩
  rw [hlr]
  refine ownsRow_arr h.o (by unfold maxN; omega) _ fun j hj => ?_
  have : j < vals.length := by rw [h.lv]; exact hj
  rw [getD_lt _ _ _ this]; simp [this]

/-- A list made for the call. -/
def NewN (l : List Int) (w : World) (e : Ending) (w' : World) : Prop := ∃ v, e = .returned v ∧ IsInts w' v l ∧ Below w.heap.size w w'

theorem ivF_drop (l : List Int) (k j : Nat) : ivF (l.drop k) j = ivF l (k + j) := by simp [ivF, List.getD]

theorem ivF_take (l : List Int) {k j : Nat} (h : j < k) : ivF (l.take k) j = ivF l j := by simp [ivF, List.getD, h]

theorem IsInts.drop {w : World} {ao : Option Addr} {cap b off : Nat} {l : List Int} (h : ArrAt w ao cap b off l.length (ivF l)) (hr : ∀ x ∈ l, I64 x) (k : Nat) (hk : k < l.length) :
    IsInts w (.slice (some ⟨b, off + k, none⟩) (l.length - k) (cap - k)) (l.drop k) := by
  have := h.lc
  have := h.cm
  have := h.nm
  refine ⟨⟨_, _, b, off + k, by rw [List.length_drop], ⟨by rw [List.length_drop]; omega, by omega, by rw [List.length_drop]; omega, (fun e => by cases e), fun _ => rfl, fun j hj => ?_⟩⟩, fun x hx => hr x (List.mem_of_mem_drop hx)⟩
  rw [List.length_drop] at hj
  have e := h.el (k + j) (by omega)
  rw [ivF_drop, Nat.add_assoc]
  exact e

theorem IsInts.take {w : World} {ao : Option Addr} {cap b off : Nat} {l : List Int} (h : ArrAt w ao cap b off l.length (ivF l)) (hr : ∀ x ∈ l, I64 x) (k : Nat) (hk : k ≤ l.length) :
    IsInts w (.slice ao k cap) (l.take k) := by
  have := h.lc
  have hl : (l.take k).length = k := by rw [List.length_take]; omega
  refine ⟨⟨ao, cap, b, off, by rw [hl], ⟨by omega, h.cm, by have := h.nm; omega, h.nc, fun h0 => h.ad (by omega), fun j hj => ?_⟩⟩, fun x hx => hr x (List.mem_of_mem_take hx)⟩
  rw [hl] at hj
  rw [ivF_take _ hj]
  exact h.el j (by omega)

theorem app_ints {ops : Array Oper} {rest : List Oper} {o : Oper} {a : Act} {Q : Exit → Act → World → Prop} {w : World} (hgd : o.guard = none) (s x : Operand)
    (ho : o.op = .call { callee := .builtin .append, args := #[s, x], argTypes := #[22, 22] })
    (base : Nat) (v v2 : Value) (l l2 : List Int) (hown : OI w base v l) (hs : a.eval s = v) (hsrc : IsInts w v2 l2) (hx : a.eval x = v2)
    (hn : l.length + l2.length ≤ 17592186043904) (hbase : base ≤ w.heap.size)
    (h : ∀ v' w', OI w' base v' (l ++ l2) → w.grownBy w' v.ownBlock → Moved w v v' → wpList Try.prog ops Q rest (a.put o.dst v') w') :
    wpList Try.prog ops Q (o :: rest) a w := by
  obtain ⟨⟨ao, cap, b, off, rfl, hsrc⟩, -⟩ := hsrc
  refine wpList_appA hgd s x _ _ 8 _ ho Try.underlying22 info_int rfl base v l.length _ hs hown ao cap b off l2.length (ivF l2) hx hsrc (fun _ => rfl) (by omega) (by decide) hbase fun v' w' h1 h2 h3 => h v' w' ?_ h2 h3
  have e : (List.range l2.length).map (ivF l2) = l2.map (Value.int .i64) := by
    apply List.ext_getElem (by simp)
    intro j h1 h2
    have : j < l2.length := by simpa using h1
    simp [ivF, this]
  rw [e] at h1
  unfold OI
  simpa using h1

theorem OI_empty0 (w : World) : OI (w.alloc (.cells #[] 3)) w.heap.size (.slice (some ⟨w.heap.size, 0, none⟩) 0 0) [] :=
  World.ownsRow_made w #[] 0 (Nat.le_refl _) (by simp [maxLen]) rfl

theorem nil_eq (w : World) : Sem.run Try.prog (binOp BinOp.eql 22 (.slice none 0 0) (.slice none 0 0)) w = .ok (.bool true) w := by rfl

theorem some_eq (w : World) (ad : Addr) (n c : Nat) : Sem.run Try.prog (binOp BinOp.eql 22 (.slice (some ad) n c) (.slice none 0 0)) w = .ok (.bool false) w := by rfl

set_option maxHeartbeats 2000000 in
theorem Clone_c (w : World) (vl : Value) (l : List Int) (hl : IsInts w vl l) (hlen : l.length ≤ 100000) :
    Calls Try.prog 31 #[vl] w (NewN l w) := by
  have hb0 : Below w.heap.size w (w.alloc (.cells #[] 3)) := bel_box _
  have hl2 := hl.below hb0
  have HR := Lib.hid hl.2
  have HO := Lib.hid (OI_empty0 w)
  obtain ⟨⟨ao, cap, b, off, rfl, hl⟩, -⟩ := hl
  cases ao with
  | none =>
    have hc := hl.nc rfl
    have h0 : l.length = 0 := by have := hl.lc; omega
    have hnil : l = [] := List.eq_nil_of_length_eq_zero h0
    subst hnil
    subst hc
    clear hl hl2 HO
    have hE := nil_eq w
    go_enter Try.func31, Try.ntmps31
    go_wp2
    go_ret
    exact ⟨_, rfl, ⟨⟨none, 0, 0, 0, rfl, ⟨Nat.le_refl _, by simp [maxLen], by simp [maxN], fun _ => rfl, fun h => absurd h (by simp), fun j hj => absurd hj (by simp)⟩⟩, by simp⟩, Below.refl _ _⟩
  | some ad =>
    have HL := Lib.hid hl2
    clear hl2
    have hE := some_eq w ad l.length cap
    go_enter Try.func31, Try.ntmps31
    go_wp2_with (at_builtin; refine app_ints rfl _ _ rfl w.heap.size _ _ [] l HO.out rfl HL.out rfl (by simp; omega) (by simp) ?_; intro v' w' hown' hg hmv; have HO2 := Lib.hid hown'; clear hown')
    go_ret
    exact ⟨_, rfl, HO2.out.is (by simp; unfold maxN; omega) HR.out, hb0.grown hg hb0.size HO.out.ge⟩

def flatL (ll : List (List Int)) : List Int := ll.flatten

/-- A row of the call's own. -/
def NewO (l : List Int) (w : World) (e : Ending) (w' : World) : Prop := ∃ v, e = .returned v ∧ OI w' w.heap.size v l ∧ Below w.heap.size w w'

theorem flat_take (ll : List (List Int)) (k : Nat) (h : k < ll.length) : flatL (ll.take (k + 1)) = flatL (ll.take k) ++ ll.getD k [] := by
  unfold flatL
  rw [List.take_succ_eq_append_getElem h, List.flatten_append]; simp [List.getD, h]

theorem flat_le (ll : List (List Int)) (k : Nat) : (flatL (ll.take k)).length ≤ (flatL ll).length := by
  conv => rhs; rw [← List.take_append_drop k ll]
  unfold flatL
  rw [List.flatten_append, List.length_append]; omega

theorem IsGame.dat {w : World} {g : Gm} {N : Nat} {a0 a1 a2 : Option Addr} {n0 n1 n2 k0 k1 k2 : Nat} (h : IsGame w (.agg #[.slice a0 n0 k0, .slice a1 n1 k1, .slice a2 n2 k2]) g) (l0 : g.owner.length = N) (l1 : g.prio.length = N) (l2 : g.succ.length = N) :
    N = n0 ∧ N = n1 ∧ N = n2 ∧ ∃ b0 o0 b1 o1 b2 o2, ∃ V : Nat → Value, (0 < N → a0 = some ⟨b0, o0, none⟩ ∧ a1 = some ⟨b1, o1, none⟩ ∧ a2 = some ⟨b2, o2, none⟩) ∧
      ∀ j, j < N → w.cell? ⟨b0, o0 + j, none⟩ = some (.int .i64 (g.owner.getD j 0)) ∧ w.cell? ⟨b1, o1 + j, none⟩ = some (.int .i64 (g.prio.getD j 0)) ∧ w.cell? ⟨b2, o2 + j, none⟩ = some (V j) ∧ IsInts w (V j) (g.succ.getD j []) := by
  obtain ⟨v0, v1, v2, hv, ⟨⟨ao0, cap0, b0, off0, rfl, g0⟩, _⟩, ⟨⟨ao1, cap1, b1, off1, rfl, g1⟩, _⟩, ⟨V, ⟨ao2, cap2, b2, off2, rfl, g2⟩, hr⟩⟩ := h
  injection hv with hv
  injection hv with hv
  simp only [List.cons.injEq, Value.slice.injEq, and_true] at hv
  obtain ⟨⟨rfl, rfl, rfl⟩, ⟨rfl, rfl, rfl⟩, rfl, rfl, rfl⟩ := hv
  exact ⟨l0.symm, l1.symm, l2.symm, b0, off0, b1, off1, b2, off2, V, fun hN => ⟨g0.ad (by omega), g1.ad (by omega), g2.ad (by omega)⟩, fun j hj => ⟨g0.el j (by omega), g1.el j (by omega), g2.el j (by omega), hr j (by omega)⟩⟩

theorem IsInts.shp {w : World} {v : Value} {l : List Int} (h : IsInts w v l) : ∃ a c, v = .slice a l.length c := by
  obtain ⟨⟨a, c, b, o, rfl, -⟩, -⟩ := h
  exact ⟨a, c, rfl⟩

theorem IsInts.dat {w : World} {a : Option Addr} {n c : Nat} {l : List Int} (h : IsInts w (.slice a n c) l) : ∃ b o, (0 < n → a = some ⟨b, o, none⟩) ∧ n ≤ 140737488351232 ∧ ∀ j, j < n → w.cell? ⟨b, o + j, none⟩ = some (.int .i64 (l.getD j 0)) := by
  obtain ⟨⟨a', c', b, o, hv, ha⟩, -⟩ := h
  injection hv with h1 h2 h3
  subst h1 h2 h3
  exact ⟨b, o, fun h => ha.ad h, ha.nb, fun j hj => ha.el j hj⟩

end Go.Proofs.Ytkbiopjinegckaa
