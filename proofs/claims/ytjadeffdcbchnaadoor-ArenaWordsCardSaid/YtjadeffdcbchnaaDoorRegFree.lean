/- A drawn region whose operations may write, each what no other one speaks of. -/
import Derived.Test.YtjadeffdcbchnaaDoorArRI
namespace Go.Proofs.YtjadeffdcbchnaaDoor
open Go Go.RowKit

section
variable {F : Fence} {n : Nat} {P : Program} {ops : Array Oper} {Q : Exit → Act → World → Prop}

/-- One operation: it leaves a value that R tells, keeps the base B0, and what is known of the others. -/
def FrStep (F : Fence) (n : Nat) (P : Program) (Q : Exit → Act → World → Prop) (ops : Array Oper) (R : Nat → Value → World → Prop) (B0 : World → Prop) (A : (Nat → Value) → Act) (i : Nat) (o : Oper) : Prop :=
  ∀ (vs : Nat → Value) (W : World) (K : Act → World → Prop), B0 W → (∀ e ∈ o.after, Region.binds .any e = true → R e.on (vs e.on) W) →
    (∀ v W', B0 W' → (∀ j x, j ≠ i → R j x W → R j x W') → R i v W' → K (A (upd vs i v)) W') →
    if Region.wanted o (yielded ops (A vs).tmps) = true then Oper.wpIn F n P o (A vs) W K Q else (∀ f, o.about P W (A vs).eval = some f → F.fn f) ∧ K ((A vs).put o.dst undef) W

theorem free_any (R : Nat → Value → World → Prop) (B0 : World → Prop) (A : (Nat → Value) → Act) (hb : backB .any ops = true)
    (hstep : ∀ i o, ops[i]? = some o → FrStep F n P Q ops R B0 A i o)
    (hfin : ∀ vs W, B0 W → (∀ i, i < ops.size → R i (vs i) W) → Q .normal (A vs) W) :
    ∀ (fuel : Nat) (listed : Array Bool) (vs : Nat → Value) (W : World), listed.size = ops.size → listed.toList.count false ≤ fuel → (B0 W ∧ ∀ i, listed.getD i false = true → R i (vs i) W) → wpAnyIn F n P .any ops Q fuel listed (A vs) W
  | 0, listed, vs, W, hs, hc, hinv => by
    have hno : ∀ j, ¬ listed.getD j true = false := fun j h => by
      obtain ⟨_, h2⟩ := getD_false h
      have : 0 < listed.toList.count false := List.count_pos_iff.2 (List.mem_of_getElem? h2)
      omega
    have hr : Region.ready .any ops listed = [] := List.eq_nil_iff_forall_not_mem.2 fun j hj => hno j (mem_ready.1 hj).1
    exact ⟨hr, hfin vs W hinv.1 fun i hi => hinv.2 i (all_listed hb hs hr i hi)⟩
  | fuel + 1, listed, vs, W, hs, hc, hinv => by
    refine ⟨fun hr => hfin vs W hinv.1 fun i hi => hinv.2 i (all_listed hb hs hr i hi), fun i hi => ?_⟩
    obtain ⟨hl, o, ho, hall⟩ := mem_ready.1 hi
    refine wpOpIn_step ho fun K hK => ?_
    refine hstep i o ho vs W K hinv.1 (fun e he hbd => hinv.2 _ (hall e he hbd)) fun v W' hbl hk hr => hK _ _ ?_
    refine free_any R B0 A hb hstep hfin fuel _ (upd vs i v) W' (by simpa using hs) (count_down hl hc) ⟨hbl, fun j hj => ?_⟩
    by_cases hji : j = i
    · subst hji
      simpa [upd] using hr
    · have hj' : listed.getD j false = true := by
        have : (listed.setIfInBounds i true).getD j false = listed.getD j false := by
          simp [Array.getD_eq_getD_getElem?, Ne.symm hji]
        rwa [this] at hj
      simp only [upd, if_neg hji]
      exact hk j _ hji (hinv.2 j hj')

/-- The region. -/
theorem region_freeIn {id : Nat} {a : Act} {w : World} (hm : P.follows .mixedOrders = true) (R : Nat → Value → World → Prop) (B0 : World → Prop) (A : (Nat → Value) → Act) (vs : Nat → Value) (ha : a = A vs) (hb : backB .any ops = true) (h0 : B0 w.drew)
    (hstep : ∀ i o, ops[i]? = some o → FrStep F n P Q ops R B0 A i o)
    (hfin : ∀ vs W, B0 W → (∀ i, i < ops.size → R i (vs i) W) → Q .normal (A vs) W) : (Code.region id ops true).wpIn F n P Q a w := by
  subst ha
  refine wpIn_region_any hm (free_any R B0 A hb hstep hfin ops.size _ vs w.drew (by simp) ?_ ⟨h0, fun i hi => ?_⟩)
  · simp
  · exfalso
    rcases Nat.lt_or_ge i ops.size with h | h
    · simp [Array.getD, h] at hi
    · simp [Array.getD, Nat.not_lt.2 h] at hi

/-- L lists pairs (j, i): operation j waits, through others perhaps, for operation i. -/
def waitF (ops : Array Oper) (L : List (Nat × Nat)) : Bool := L.all fun p => match ops[p.1]? with | some o => o.after.toList.any fun e => Region.binds .any e && (e.on == p.2 || L.contains (e.on, p.2)) | none => false
theorem waitF_spec {L : List (Nat × Nat)} (h : waitF ops L = true) {j i : Nat} (hL : (j, i) ∈ L) : ∃ o, ops[j]? = some o ∧ ∃ e ∈ o.after, Region.binds .any e = true ∧ (e.on = i ∨ (e.on, i) ∈ L) := by
  have h1 := List.all_eq_true.1 h _ hL
  dsimp only at h1
  split at h1
  · rename_i o ho
    obtain ⟨e, he, h2⟩ := List.any_eq_true.1 h1
    simp only [Bool.and_eq_true, Bool.or_eq_true, beq_iff_eq, List.contains_iff_mem] at h2
    exact ⟨o, ho, e, by simpa using he, h2.1, h2.2⟩
  · cases h1
/-- What is listed holds what it waits for. -/
def ClosedF (ops : Array Oper) (listed : Array Bool) : Prop := ∀ j o, listed.getD j false = true → ops[j]? = some o → ∀ e ∈ o.after, Region.binds .any e = true → listed.getD e.on false = true
theorem ClosedF.wait {L : List (Nat × Nat)} {listed : Array Bool} (hb : backB .any ops = true) (h : waitF ops L = true) (hc : ClosedF ops listed) {i : Nat} : ∀ j, listed.getD j false = true → (j, i) ∈ L → listed.getD i false = true := by
  intro j
  induction j using Nat.strongRecOn with
  | _ j ih =>
    intro hj hL
    obtain ⟨o, ho, e, he, hbd, h2⟩ := waitF_spec h hL
    have h3 := hc j o hj ho e he hbd
    rcases h2 with rfl | h2
    · exact h3
    · exact ih e.on (backB_spec hb ho e he hbd) h3 h2

/-- One operation, where operation m uses up what E tells; what waits for this one holds its old value. -/
def FeStep (F : Fence) (n : Nat) (P : Program) (Q : Exit → Act → World → Prop) (ops : Array Oper) (R : Nat → Value → World → Prop) (B0 E : World → Prop) (m : Nat) (L : List (Nat × Nat)) (v0 : Nat → Value) (A : (Nat → Value) → Act) (i : Nat) (o : Oper) : Prop :=
  ∀ (vs : Nat → Value) (W : World) (K : Act → World → Prop), B0 W → (i = m → E W) → (∀ e ∈ o.after, Region.binds .any e = true → R e.on (vs e.on) W) → (∀ j, (j, i) ∈ L → vs j = v0 j) →
    (∀ v W', B0 W' → (i ≠ m → E W → E W') → (∀ j x, j ≠ i → (j, i) ∉ L → R j x W → R j x W') → R i v W' → K (A (upd vs i v)) W') →
    if Region.wanted o (yielded ops (A vs).tmps) = true then Oper.wpIn F n P o (A vs) W K Q else (∀ f, o.about P W (A vs).eval = some f → F.fn f) ∧ K ((A vs).put o.dst undef) W

theorem freeE_any (R : Nat → Value → World → Prop) (B0 E : World → Prop) (m : Nat) (L : List (Nat × Nat)) (v0 : Nat → Value) (A : (Nat → Value) → Act) (hb : backB .any ops = true) (hw : waitF ops L = true)
    (hstep : ∀ i o, ops[i]? = some o → FeStep F n P Q ops R B0 E m L v0 A i o)
    (hfin : ∀ vs W, B0 W → (∀ i, i < ops.size → R i (vs i) W) → Q .normal (A vs) W) :
    ∀ (fuel : Nat) (listed : Array Bool) (vs : Nat → Value) (W : World), listed.size = ops.size → listed.toList.count false ≤ fuel → ClosedF ops listed → (∀ j, listed.getD j false = false → vs j = v0 j) →
      (B0 W ∧ (listed.getD m false = false → E W) ∧ ∀ i, listed.getD i false = true → R i (vs i) W) → wpAnyIn F n P .any ops Q fuel listed (A vs) W
  | 0, listed, vs, W, hs, hc, _, _, hinv => by
    have hno : ∀ j, ¬ listed.getD j true = false := fun j h => by
      obtain ⟨_, h2⟩ := getD_false h
      have : 0 < listed.toList.count false := List.count_pos_iff.2 (List.mem_of_getElem? h2)
      omega
    have hr : Region.ready .any ops listed = [] := List.eq_nil_iff_forall_not_mem.2 fun j hj => hno j (mem_ready.1 hj).1
    exact ⟨hr, hfin vs W hinv.1 fun i hi => hinv.2.2 i (all_listed hb hs hr i hi)⟩
  | fuel + 1, listed, vs, W, hs, hc, hcl, hv0, hinv => by
    refine ⟨fun hr => hfin vs W hinv.1 fun i hi => hinv.2.2 i (all_listed hb hs hr i hi), fun i hi => ?_⟩
    obtain ⟨hl, o, ho, hall⟩ := mem_ready.1 hi
    have hl' : listed.getD i false = false := by
      obtain ⟨h1, -⟩ := getD_false hl
      simp [Array.getD, h1] at hl ⊢; exact hl
    have hset : ∀ j, j ≠ i → (listed.setIfInBounds i true).getD j false = listed.getD j false := fun j hj => by
      simp [Array.getD_eq_getD_getElem?, Ne.symm hj]
    have hself : (listed.setIfInBounds i true).getD i false = true := by
      obtain ⟨h1, -⟩ := getD_false hl
      simp [Array.getD, h1]
    refine wpOpIn_step ho fun K hK => ?_
    refine hstep i o ho vs W K hinv.1 (fun e => hinv.2.1 (by subst e; exact hl')) (fun e he hbd => hinv.2.2 _ (hall e he hbd)) (fun j hj => hv0 j ?_) fun v W' hbl hE hk hr => hK _ _ ?_
    · cases hlj : listed.getD j false with
      | false => rfl
      | true =>
        have := ClosedF.wait hb hw hcl j hlj hj
        rw [hl'] at this; cases this
    refine freeE_any R B0 E m L v0 A hb hw hstep hfin fuel _ (upd vs i v) W' (by simpa using hs) (count_down hl hc) (fun j o' hj ho' e he hbd => ?_) (fun j hj => ?_) ⟨hbl, fun hm => ?_, fun j hj => ?_⟩
    · by_cases hei : e.on = i
      · rw [hei]; exact hself
      · rw [hset _ hei]
        by_cases hji : j = i
        · subst hji
          rw [ho] at ho'
          cases ho'
          exact hall e he hbd
        · rw [hset j hji] at hj
          exact hcl j o' hj ho' e he hbd
    · by_cases hji : j = i
      · subst hji; rw [hself] at hj; cases hj
      · rw [hset j hji] at hj
        simp only [upd, if_neg hji]
        exact hv0 j hj
    · by_cases him : i = m
      · subst him
        rw [hself] at hm; cases hm
      · rw [hset m (Ne.symm him)] at hm
        exact hE him (hinv.2.1 hm)
    · by_cases hji : j = i
      · subst hji
        simpa [upd] using hr
      · rw [hset j hji] at hj
        simp only [upd, if_neg hji]
        refine hk j _ hji (fun hL => ?_) (hinv.2.2 j hj)
        have := ClosedF.wait hb hw hcl j hj hL
        rw [hl'] at this; cases this

/-- The region where operation m uses up what E tells. -/
theorem region_freeE {id : Nat} {a : Act} {w : World} (hm : P.follows .mixedOrders = true) (R : Nat → Value → World → Prop) (B0 E : World → Prop) (m : Nat) (L : List (Nat × Nat)) (A : (Nat → Value) → Act) (v0 : Nat → Value) (ha : a = A v0) (hb : backB .any ops = true) (hw : waitF ops L = true) (h0 : B0 w.drew) (hE : E w.drew)
    (hstep : ∀ i o, ops[i]? = some o → FeStep F n P Q ops R B0 E m L v0 A i o)
    (hfin : ∀ vs W, B0 W → (∀ i, i < ops.size → R i (vs i) W) → Q .normal (A vs) W) : (Code.region id ops true).wpIn F n P Q a w := by
  subst ha
  have hno : ∀ i, (Array.replicate ops.size false).getD i false = false := fun i => by
    rcases Nat.lt_or_ge i ops.size with h | h
    · simp [Array.getD, h]
    · simp [Array.getD, Nat.not_lt.2 h]
  refine wpIn_region_any hm (freeE_any R B0 E m L v0 A hb hw hstep hfin ops.size _ v0 w.drew (by simp) (by simp) (fun j o hj => ?_) (fun _ _ => rfl) ⟨h0, fun _ => hE, fun i hi => ?_⟩)
  · rw [hno j] at hj; cases hj
  · rw [hno i] at hi; cases hi

end
end Go.Proofs.YtjadeffdcbchnaaDoor
