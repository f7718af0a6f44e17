/- region_lastIn inside a fence. -/
import Derived.RegionIn
import Derived.Test.YtjadeffdcbchnaaDoorArCb
namespace Go.Proofs.YtjadeffdcbchnaaDoor
open Go Go.RowKit

section
variable {F : Fence} {n : Nat} {P : Program} {ops : Array Oper} {Q : Exit → Act → World → Prop} {md : Region.Mode}

/-- One operation: it leaves a value that R tells, and writes nothing that was there. -/
def StStepIn (F : Fence) (n : Nat) (P : Program) (Q : Exit → Act → World → Prop) (ops : Array Oper) (R : Nat → Value → World → Prop) (A : (Nat → Value) → Act) (w : World) (i : Nat) (o : Oper) : Prop :=
  ∀ (vs : Nat → Value) (W : World) (K : Act → World → Prop), Below w.heap.size w W → (∀ e ∈ o.after, Region.binds .any e = true → R e.on (vs e.on) W) →
    (∀ v W', Below W.heap.size W W' → R i v W' → K (A (upd vs i v)) W') →
    if Region.wanted o (yielded ops (A vs).tmps) = true then Oper.wpIn F n P o (A vs) W K Q else (∀ f, o.about P W (A vs).eval = some f → F.fn f) ∧ K ((A vs).put o.dst undef) W

theorem stable_anyIn (R : Nat → Value → World → Prop) (A : (Nat → Value) → Act) {w : World} (hb : backB .any ops = true) (hR : ∀ i v W W', R i v W → Below W.heap.size W W' → R i v W')
    (hstep : ∀ i o, ops[i]? = some o → StStepIn F n P Q ops R A w i o)
    (hfin : ∀ vs W, Below w.heap.size w W → (∀ i, i < ops.size → R i (vs i) W) → Q .normal (A vs) W) :
    ∀ (fuel : Nat) (listed : Array Bool) (vs : Nat → Value) (W : World), listed.size = ops.size → listed.toList.count false ≤ fuel → StInv R w listed vs W → wpAnyIn F n P .any ops Q fuel listed (A vs) W
  | 0, listed, vs, W, hs, hc, hinv => by
    have hno : ∀ j, ¬ listed.getD j true = false := fun j h => by
      obtain ⟨_, h2⟩ := getD_false h
      have : 0 < listed.toList.count false := List.count_pos_iff.2 (List.mem_of_getElem? h2)
      omega
    have hr : Region.ready .any ops listed = [] := List.eq_nil_iff_forall_not_mem.2 fun j hj => hno j (mem_ready.1 hj).1
    exact ⟨hr, hfin vs W hinv.1 fun i hi => hinv.2 i (all_listed hb hs hr i hi)⟩
  | fuel + 1, listed, vs, W, hs, hc, hinv => by
    refine ⟨fun hr => hfin vs W hinv.1 fun i hi => hinv.2 i (all_listed hb hs hr i hi), fun i hi => ?_⟩
    obtain ⟨hl, o, ho, hall⟩ := mem_ready.1 hi
    refine wpOpIn_step ho fun K hK => ?_
    refine hstep i o ho vs W K hinv.1 (fun e he hbd => hinv.2 _ (hall e he hbd)) fun v W' hbl hr => hK _ _ ?_
    refine stable_anyIn R A hb hR hstep hfin fuel _ (upd vs i v) W' (by simpa using hs) (count_down hl hc) ⟨hinv.1.trans (hbl.mono hinv.1.size), fun j hj => ?_⟩
    by_cases hji : j = i
    · subst hji
      simpa [upd] using hr
    · have hj' : listed.getD j false = true := by
        have : (listed.setIfInBounds i true).getD j false = listed.getD j false := by
          simp [Array.getD_eq_getD_getElem?, Ne.symm hji]
        rwa [this] at hj
      simp only [upd, if_neg hji]
      exact hR j _ W W' (hinv.2 j hj') hbl

/-- The region. A tells the frame by the values of the operations; R i what is known of the value of operation i. -/
theorem region_stableIn {id : Nat} {a : Act} {w : World} (hm : P.follows .mixedOrders = true) (R : Nat → Value → World → Prop) (A : (Nat → Value) → Act) (vs : Nat → Value) (ha : a = A vs) (hb : backB .any ops = true)
    (hR : ∀ i v W W', R i v W → Below W.heap.size W W' → R i v W')
    (hstep : ∀ i o, ops[i]? = some o → StStepIn F n P Q ops R A w.drew i o)
    (hfin : ∀ vs W, Below w.drew.heap.size w.drew W → (∀ i, i < ops.size → R i (vs i) W) → Q .normal (A vs) W) : (Code.region id ops true).wpIn F n P Q a w := by
  subst ha
  refine wpIn_region_any hm (stable_anyIn R A hb hR hstep hfin ops.size _ vs w.drew (by simp) ?_ ⟨Below.refl _ _, fun i hi => ?_⟩)
  · simp
  · exfalso
    rcases Nat.lt_or_ge i ops.size with h | h
    · simp [Array.getD, h] at hi
    · simp [Array.getD, Nat.not_lt.2 h] at hi

theorem wpAnyIn_done {listed : Array Bool} {a : Act} {w : World} (h : ∀ i, i < ops.size → listed.getD i false = true) (hQ : Q .normal a w) : ∀ fuel, wpAnyIn F n P md ops Q fuel listed a w
  | 0 => ⟨ready_nil h, hQ⟩
  | _ + 1 => ⟨fun _ => hQ, by rw [ready_nil h]; simp⟩

/-- The last operation, which may write. -/
def StLastIn (F : Fence) (n : Nat) (P : Program) (Q : Exit → Act → World → Prop) (ops : Array Oper) (R : Nat → Value → World → Prop) (A : (Nat → Value) → Act) (w : World) (m : Nat) (o : Oper) : Prop :=
  ∀ (vs : Nat → Value) (W : World) (K : Act → World → Prop), Below w.heap.size w W → (∀ i, i < m → R i (vs i) W) → (∀ a' W', Q .normal a' W' → K a' W') →
    if Region.wanted o (yielded ops (A vs).tmps) = true then Oper.wpIn F n P o (A vs) W K Q else (∀ f, o.about P W (A vs).eval = some f → F.fn f) ∧ K ((A vs).put o.dst undef) W

theorem last_anyIn (R : Nat → Value → World → Prop) (A : (Nat → Value) → Act) {w : World} (m : Nat) (hb : backB .any ops = true) (hl : lastB ops m = true) (hR : ∀ i v W W', R i v W → Below W.heap.size W W' → R i v W')
    (hstep : ∀ i o, i < m → ops[i]? = some o → StStepIn F n P Q ops R A w i o) (hlast : ∀ o, ops[m]? = some o → StLastIn F n P Q ops R A w m o) :
    ∀ (fuel : Nat) (listed : Array Bool) (vs : Nat → Value) (W : World), listed.size = ops.size → listed.toList.count false ≤ fuel → listed.getD m false = false → StInv R w listed vs W → wpAnyIn F n P .any ops Q fuel listed (A vs) W
  | 0, listed, vs, W, hs, hc, hm, hinv => by
    simp only [lastB, Bool.and_eq_true, decide_eq_true_eq] at hl
    have h1 : listed.getD m true = false := by
      have : m < listed.size := by omega
      simp [Array.getD, this] at hm ⊢; exact hm
    obtain ⟨_, h2⟩ := getD_false h1
    have : 0 < listed.toList.count false := List.count_pos_iff.2 (List.mem_of_getElem? h2)
    omega
  | fuel + 1, listed, vs, W, hs, hc, hm, hinv => by
    have hl' := hl
    simp only [lastB, Bool.and_eq_true, decide_eq_true_eq] at hl'
    obtain ⟨hsz, hla⟩ := hl'
    refine ⟨fun hr => ?_, fun i hi => ?_⟩
    · have := all_listed hb hs hr m (by omega)
      rw [hm] at this; cases this
    · obtain ⟨hli, o, ho, hall⟩ := mem_ready.1 hi
      have hilt := (Array.getElem?_eq_some_iff.1 ho).1
      have hset : ∀ j, j ≠ i → (listed.setIfInBounds i true).getD j false = listed.getD j false := fun j hj => by
        simp [Array.getD_eq_getD_getElem?, Ne.symm hj]
      by_cases him : i = m
      · subst him
        rw [ho] at hla
        have hothers : ∀ j, j < i → listed.getD j false = true := fun j hj => by
          have := List.all_eq_true.1 hla j (List.mem_range.2 hj)
          obtain ⟨e, he, h2⟩ := List.any_eq_true.1 this
          simp only [Bool.and_eq_true, beq_iff_eq] at h2
          obtain ⟨h3, rfl⟩ := h2
          exact hall e (by simpa using he) h3
        refine wpOpIn_step ho fun K hK => ?_
        refine hlast o ho vs W K hinv.1 (fun j hj => hinv.2 j (hothers j hj)) fun a' W' hQ => hK _ _ (wpAnyIn_done (fun j hj => ?_) hQ fuel)
        by_cases hji : j = i
        · subst hji
          have : j < listed.size := by omega
          simp [Array.getD, this]
        · rw [hset j hji]; exact hothers j (by omega)
      · refine wpOpIn_step ho fun K hK => ?_
        refine hstep i o (by omega) ho vs W K hinv.1 (fun e he hbd => hinv.2 _ (hall e he hbd)) fun v W' hbl hr => hK _ _ ?_
        refine last_anyIn R A m hb hl hR hstep hlast fuel _ (upd vs i v) W' (by simpa using hs) (count_down hli hc) (by rw [hset m (Ne.symm him)]; exact hm) ⟨hinv.1.trans (hbl.mono hinv.1.size), fun j hj => ?_⟩
        by_cases hji : j = i
        · subst hji
          simpa [upd] using hr
        · rw [hset j hji] at hj
          simp only [upd, if_neg hji]
          exact hR j _ W W' (hinv.2 j hj) hbl

/-- The region whose last operation (number m) waits for all others and may write. -/
theorem region_lastIn {id : Nat} {a : Act} {w : World} (hm : P.follows .mixedOrders = true) (R : Nat → Value → World → Prop) (A : (Nat → Value) → Act) (vs : Nat → Value) (m : Nat) (ha : a = A vs) (hb : backB .any ops = true) (hl : lastB ops m = true)
    (hR : ∀ i v W W', R i v W → Below W.heap.size W W' → R i v W')
    (hstep : ∀ i o, i < m → ops[i]? = some o → StStepIn F n P Q ops R A w.drew i o) (hlast : ∀ o, ops[m]? = some o → StLastIn F n P Q ops R A w.drew m o) : (Code.region id ops true).wpIn F n P Q a w := by
  subst ha
  have hnone : ∀ i, (Array.replicate ops.size false).getD i false = false := fun i => by
    rcases Nat.lt_or_ge i ops.size with h | h
    · simp [Array.getD, h]
    · simp [Array.getD, Nat.not_lt.2 h]
  refine wpIn_region_any hm (last_anyIn R A m hb hl hR hstep hlast ops.size _ vs w.drew (by simp) (by simp) (hnone m) ⟨Below.refl _ _, fun i hi => ?_⟩)
  rw [hnone i] at hi; cases hi

end
end Go.Proofs.YtjadeffdcbchnaaDoor
