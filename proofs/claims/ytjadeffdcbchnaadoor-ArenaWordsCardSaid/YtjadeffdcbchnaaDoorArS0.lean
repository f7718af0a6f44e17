/- A region that draws its order, as region_stable has it; besides, an operation knows the slots of the operations that wait for it: they hold what they held before. -/
import Derived.Test.YtjadeffdcbchnaaDoorArCb
namespace Go.Proofs.YtjadeffdcbchnaaDoor
open Go Go.RowKit

section
variable {P : Program} {ops : Array Oper} {Q : Exit → Act → World → Prop}
/-- Operation j waits for operation i. -/
def waitsB (ops : Array Oper) (i j : Nat) : Bool := match ops[j]? with | some o => o.after.toList.any (fun e => Region.binds .any e && e.on == i) | none => false
theorem waits_spec {i j : Nat} (h : waitsB ops i j = true) : ∃ o, ops[j]? = some o ∧ ∃ e ∈ o.after, Region.binds .any e = true ∧ e.on = i := by
  unfold waitsB at h
  split at h
  · rename_i o ho
    obtain ⟨e, he, h2⟩ := List.any_eq_true.1 h
    simp only [Bool.and_eq_true, beq_iff_eq] at h2
    exact ⟨o, ho, e, by simpa using he, h2.1, h2.2⟩
  · cases h
def StStep0 (P : Program) (Q : Exit → Act → World → Prop) (ops : Array Oper) (R : Nat → Value → World → Prop) (A : (Nat → Value) → Act) (vs0 : Nat → Value) (w : World) (i : Nat) (o : Oper) : Prop :=
  ∀ (vs : Nat → Value) (W : World) (K : Act → World → Prop), Below w.heap.size w W → (∀ e ∈ o.after, Region.binds .any e = true → R e.on (vs e.on) W) → (∀ j, waitsB ops i j = true → vs j = vs0 j) →
    (∀ v W', Below W.heap.size W W' → R i v W' → K (A (upd vs i v)) W') →
    if Region.wanted o (yielded ops (A vs).tmps) = true then Oper.wp P o (A vs) W K Q else K ((A vs).put o.dst undef) W
theorem stable_any0 (R : Nat → Value → World → Prop) (A : (Nat → Value) → Act) (vs0 : Nat → Value) {w : World} (hb : backB .any ops = true) (hR : ∀ i v W W', R i v W → Below W.heap.size W W' → R i v W')
    (hstep : ∀ i o, ops[i]? = some o → StStep0 P Q ops R A vs0 w i o)
    (hfin : ∀ vs W, Below w.heap.size w W → (∀ i, i < ops.size → R i (vs i) W) → Q .normal (A vs) W) :
    ∀ (fuel : Nat) (listed : Array Bool) (vs : Nat → Value) (W : World), listed.size = ops.size → listed.toList.count false ≤ fuel → StInv R w listed vs W → (∀ i, listed.getD i false = false → vs i = vs0 i) →
      (∀ j o, ops[j]? = some o → listed.getD j false = true → ∀ e ∈ o.after, Region.binds .any e = true → listed.getD e.on false = true) → wpAny P .any ops Q fuel listed (A vs) W
  | 0, listed, vs, W, hs, hc, hinv, _, _ => by
    have hno : ∀ j, ¬ listed.getD j true = false := fun j h => by
      obtain ⟨_, h2⟩ := getD_false h
      have : 0 < listed.toList.count false := List.count_pos_iff.2 (List.mem_of_getElem? h2)
      omega
    have hr : Region.ready .any ops listed = [] := List.eq_nil_iff_forall_not_mem.2 fun j hj => hno j (mem_ready.1 hj).1
    exact ⟨hr, hfin vs W hinv.1 fun i hi => hinv.2 i (all_listed hb hs hr i hi)⟩
  | fuel + 1, listed, vs, W, hs, hc, hinv, hun, hcl => by
    refine ⟨fun hr => hfin vs W hinv.1 fun i hi => hinv.2 i (all_listed hb hs hr i hi), fun i hi => ?_⟩
    obtain ⟨hl, o, ho, hall⟩ := mem_ready.1 hi
    have hli : listed.getD i false = false := by
      obtain ⟨h1, h2⟩ := getD_false hl
      simp [Array.getD, h1] at hl ⊢
      exact hl
    have hmono : ∀ j, listed.getD j false = true → (listed.setIfInBounds i true).getD j false = true := fun j hj => by
      by_cases hji : j = i
      · subst hji; rw [hli] at hj; cases hj
      · have : (listed.setIfInBounds i true).getD j false = listed.getD j false := by
          simp [Array.getD_eq_getD_getElem?, Ne.symm hji]
        rw [this]; exact hj
    refine wpOp_step ho fun K hK => ?_
    refine hstep i o ho vs W K hinv.1 (fun e he hbd => hinv.2 _ (hall e he hbd)) (fun j hj => ?_) fun v W' hbl hr => hK _ _ ?_
    · obtain ⟨o', ho', e, he, hbd, hon⟩ := waits_spec hj
      refine hun j ?_
      cases hlj : listed.getD j false with
      | false => rfl
      | true =>
        have := hcl j o' ho' hlj e he hbd
        rw [hon, hli] at this
        cases this
    refine stable_any0 R A vs0 hb hR hstep hfin fuel _ (upd vs i v) W' (by simpa using hs) (count_down hl hc) ⟨hinv.1.trans (hbl.mono hinv.1.size), fun j hj => ?_⟩ (fun j hj => ?_) (fun j o' ho' hj e he hbd => ?_)
    · by_cases hji : j = i
      · subst hji
        simpa [upd] using hr
      · have hj' : listed.getD j false = true := by
          have : (listed.setIfInBounds i true).getD j false = listed.getD j false := by
            simp [Array.getD_eq_getD_getElem?, Ne.symm hji]
          rwa [this] at hj
        simp only [upd, if_neg hji]
        exact hR j _ W W' (hinv.2 j hj') hbl
    · by_cases hji : j = i
      · subst hji
        obtain ⟨h1, _⟩ := getD_false hl
        simp [Array.getD, h1] at hj
      · have : (listed.setIfInBounds i true).getD j false = listed.getD j false := by
          simp [Array.getD_eq_getD_getElem?, Ne.symm hji]
        rw [this] at hj
        simp only [upd, if_neg hji]
        exact hun j hj
    · by_cases hji : j = i
      · subst hji
        rw [ho] at ho'
        cases ho'
        exact hmono _ (hall e he hbd)
      · have : (listed.setIfInBounds i true).getD j false = listed.getD j false := by
          simp [Array.getD_eq_getD_getElem?, Ne.symm hji]
        rw [this] at hj
        exact hmono _ (hcl j o' ho' hj e he hbd)
theorem region_stable0 {id : Nat} {a : Act} {w : World} (hm : P.follows .mixedOrders = true) (R : Nat → Value → World → Prop) (A : (Nat → Value) → Act) (vs : Nat → Value) (ha : a = A vs) (hb : backB .any ops = true)
    (hR : ∀ i v W W', R i v W → Below W.heap.size W W' → R i v W')
    (hstep : ∀ i o, ops[i]? = some o → StStep0 P Q ops R A vs w.drew i o)
    (hfin : ∀ vs W, Below w.drew.heap.size w.drew W → (∀ i, i < ops.size → R i (vs i) W) → Q .normal (A vs) W) : (Code.region id ops true).wp P Q a w := by
  subst ha
  have hno : ∀ i, (Array.replicate ops.size false).getD i false = false := fun i => by
    rcases Nat.lt_or_ge i ops.size with h | h
    · simp [Array.getD, h]
    · simp [Array.getD, Nat.not_lt.2 h]
  refine wp_region_any hm (stable_any0 R A vs hb hR hstep hfin ops.size _ vs w.drew (by simp) ?_ ⟨Below.refl _ _, fun i hi => ?_⟩ (fun _ _ => rfl) (fun j o _ hj => ?_))
  · simp
  · exfalso
    have := hno i
    rw [this] at hi; cases hi
  · exfalso
    have := hno j
    rw [this] at hj; cases hj
end

end Go.Proofs.YtjadeffdcbchnaaDoor
