/- A region that draws its order, told by one invariant on what is listed, the values and the world; and the form where most operations only leave values that stay, and a few are told together. -/
import Derived.Test.YtkbiopjinegckaaStCb
namespace Go.Proofs.Ytkbiopjinegckaa
open Go Go.RowKit

section
variable {P : Program} {ops : Array Oper} {Q : Exit → Act → World → Prop}
/-- A set of operations with one more. -/
def upS (S : Nat → Bool) (i : Nat) : Nat → Bool := fun j => if j = i then true else S j
/-- What a set that may be listed is like. -/
def Cl (ops : Array Oper) (S : Nat → Bool) : Prop := ∀ i j, waitsB ops i j = true → S j = true → S i = true

/-- One operation. -/
def JStep (P : Program) (Q : Exit → Act → World → Prop) (ops : Array Oper) (J : (Nat → Bool) → (Nat → Value) → World → Prop) (A : (Nat → Value) → Act) (i : Nat) (o : Oper) : Prop :=
  ∀ (S : Nat → Bool) (vs : Nat → Value) (W : World) (K : Act → World → Prop), S i = false → (∀ j, waitsB ops j i = true → S j = true) → Cl ops S → J S vs W →
    (∀ v W', J (upS S i) (upd vs i v) W' → K (A (upd vs i v)) W') →
    if Region.wanted o (yielded ops (A vs).tmps) = true then Oper.wp P o (A vs) W K Q else K ((A vs).put o.dst undef) W

theorem inv_any (J : (Nat → Bool) → (Nat → Value) → World → Prop) (A : (Nat → Value) → Act) (hb : backB .any ops = true)
    (hstep : ∀ i o, ops[i]? = some o → JStep P Q ops J A i o)
    (hfin : ∀ S vs W, (∀ i, i < ops.size → S i = true) → J S vs W → Q .normal (A vs) W) :
    ∀ (fuel : Nat) (listed : Array Bool) (vs : Nat → Value) (W : World), listed.size = ops.size → listed.toList.count false ≤ fuel → J (fun i => listed.getD i false) vs W →
      (∀ j o, ops[j]? = some o → listed.getD j false = true → ∀ e ∈ o.after, Region.binds .any e = true → listed.getD e.on false = true) → wpAny P .any ops Q fuel listed (A vs) W
  | 0, listed, vs, W, hs, hc, hinv, _ => by
    have hno : ∀ j, ¬ listed.getD j true = false := fun j h => by
      obtain ⟨_, h2⟩ := getD_false h
      have : 0 < listed.toList.count false := List.count_pos_iff.2 (List.mem_of_getElem? h2)
      omega
    have hr : Region.ready .any ops listed = [] := List.eq_nil_iff_forall_not_mem.2 fun j hj => hno j (mem_ready.1 hj).1
    exact ⟨hr, hfin _ vs W (fun i hi => all_listed hb hs hr i hi) hinv⟩
  | fuel + 1, listed, vs, W, hs, hc, hinv, hcl => by
    refine ⟨fun hr => hfin _ vs W (fun i hi => all_listed hb hs hr i hi) hinv, fun i hi => ?_⟩
    obtain ⟨hl, o, ho, hall⟩ := mem_ready.1 hi
    have hli : listed.getD i false = false := by
      obtain ⟨h1, h2⟩ := getD_false hl
      simp [Array.getD, h1] at hl ⊢
      exact hl
    have hset : (fun j => (listed.setIfInBounds i true).getD j false) = upS (fun j => listed.getD j false) i := funext fun j => by
      by_cases hji : j = i
      · subst hji
        obtain ⟨h1, _⟩ := getD_false hl
        simp [upS, Array.getD, h1]
      · simp [upS, Array.getD_eq_getD_getElem?, Ne.symm hji, hji]
    refine wpOp_step ho fun K hK => ?_
    refine hstep i o ho (fun j => listed.getD j false) vs W K hli (fun j hj => ?_) (fun a b hab hb' => ?_) hinv fun v W' hJ => hK _ _ ?_
    · obtain ⟨o', ho', e, he, hbd, hon⟩ := waits_spec hj
      rw [ho] at ho'
      cases ho'
      rw [← hon]
      exact hall e he hbd
    · obtain ⟨o', ho', e, he, hbd, hon⟩ := waits_spec hab
      rw [← hon]
      exact hcl b o' ho' hb' e he hbd
    refine inv_any J A hb hstep hfin fuel _ (upd vs i v) W' (by simpa using hs) (count_down hl hc) (by rw [hset]; exact hJ) (fun j o' ho' hj e he hbd => ?_)
    have hj2 : upS (fun j => listed.getD j false) i j = true := by rw [← hset]; exact hj
    show (fun j => (listed.setIfInBounds i true).getD j false) e.on = true
    rw [hset]
    unfold upS at hj2 ⊢
    by_cases hei : e.on = i
    · rw [if_pos hei]
    · rw [if_neg hei]
      by_cases hji : j = i
      · subst hji
        rw [ho] at ho'
        cases ho'
        exact hall e he hbd
      · rw [if_neg hji] at hj2
        exact hcl j o' ho' hj2 e he hbd

/-- The region, told by one invariant. -/
theorem region_inv {id : Nat} {a : Act} {w : World} (hm : P.follows .mixedOrders = true) (J : (Nat → Bool) → (Nat → Value) → World → Prop) (A : (Nat → Value) → Act) (vs : Nat → Value) (ha : a = A vs) (hb : backB .any ops = true)
    (h0 : J (fun _ => false) vs w.drew)
    (hstep : ∀ i o, ops[i]? = some o → JStep P Q ops J A i o)
    (hfin : ∀ S vs W, (∀ i, i < ops.size → S i = true) → J S vs W → Q .normal (A vs) W) : (Code.region id ops true).wp P Q a w := by
  subst ha
  have hno : ∀ i, (Array.replicate ops.size false).getD i false = false := fun i => by
    rcases Nat.lt_or_ge i ops.size with h | h
    · simp [Array.getD, h]
    · simp [Array.getD, Nat.not_lt.2 h]
  refine wp_region_any hm (inv_any J A hb hstep hfin ops.size _ vs w.drew (by simp) ?_ ?_ (fun j o _ hj => ?_))
  · simp
  · rw [show (fun i => (Array.replicate ops.size false).getD i false) = fun _ => false from funext hno]; exact h0
  · exfalso
    have := hno j
    rw [this] at hj; cases hj

/-- T: the operations that are told together, by J; the others leave values that R tells and that stay as long as nothing below B is written. -/
def TInvJ (B : Nat) (w : World) (T : Nat → Bool) (R : Nat → Value → World → Prop) (J : (Nat → Bool) → (Nat → Value) → World → Prop) (S : Nat → Bool) (vs : Nat → Value) (W : World) : Prop :=
  Below B w W ∧ (∀ i, T i = false → S i = true → R i (vs i) W) ∧ J S vs W
/-- An operation that is told by itself. -/
def TPlain (P : Program) (Q : Exit → Act → World → Prop) (ops : Array Oper) (B : Nat) (w : World) (R : Nat → Value → World → Prop) (T : Nat → Bool) (J : (Nat → Bool) → (Nat → Value) → World → Prop) (A : (Nat → Value) → Act) (i : Nat) (o : Oper) : Prop :=
  ∀ (S : Nat → Bool) (vs : Nat → Value) (W : World) (K : Act → World → Prop), Below B w W → (∀ j, waitsB ops j i = true → S j = true) → (∀ j, T j = false → waitsB ops j i = true → R j (vs j) W) → J S vs W →
    (∀ v W', Below W.heap.size W W' → R i v W' → K (A (upd vs i v)) W') →
    if Region.wanted o (yielded ops (A vs).tmps) = true then Oper.wp P o (A vs) W K Q else K ((A vs).put o.dst undef) W
/-- An operation of those told together. -/
def TTied (P : Program) (Q : Exit → Act → World → Prop) (ops : Array Oper) (B : Nat) (w : World) (R : Nat → Value → World → Prop) (T : Nat → Bool) (J : (Nat → Bool) → (Nat → Value) → World → Prop) (A : (Nat → Value) → Act) (i : Nat) (o : Oper) : Prop :=
  ∀ (S : Nat → Bool) (vs : Nat → Value) (W : World) (K : Act → World → Prop), Below B w W → S i = false → (∀ j, waitsB ops j i = true → S j = true) → Cl ops S → (∀ j, T j = false → waitsB ops j i = true → R j (vs j) W) → J S vs W →
    (∀ v W', Below B w W' → (∀ j x, T j = false → R j x W → R j x W') → J (upS S i) (upd vs i v) W' → K (A (upd vs i v)) W') →
    if Region.wanted o (yielded ops (A vs).tmps) = true then Oper.wp P o (A vs) W K Q else K ((A vs).put o.dst undef) W

theorem region_tied {id : Nat} {a : Act} {w : World} (hm : P.follows .mixedOrders = true) (T : Nat → Bool) (R : Nat → Value → World → Prop) (J : (Nat → Bool) → (Nat → Value) → World → Prop) (A : (Nat → Value) → Act) (vs : Nat → Value) (ha : a = A vs) (hb : backB .any ops = true)
    (hR : ∀ i v W W', R i v W → Below W.heap.size W W' → R i v W')
    (hJ : ∀ S S' vs vs' W W', (∀ j, T j = true → S j = S' j ∧ vs j = vs' j) → J S vs W → Below W.heap.size W W' → J S' vs' W')
    (h0 : J (fun _ => false) vs w.drew)
    (hplain : ∀ i o, T i = false → ops[i]? = some o → TPlain P Q ops w.heap.size w.drew R T J A i o)
    (htied : ∀ i o, T i = true → ops[i]? = some o → TTied P Q ops w.heap.size w.drew R T J A i o)
    (hfin : ∀ S vs W, Below w.heap.size w.drew W → (∀ i, i < ops.size → S i = true) → (∀ i, i < ops.size → T i = false → R i (vs i) W) → J S vs W → Q .normal (A vs) W) : (Code.region id ops true).wp P Q a w := by
  refine region_inv hm (TInvJ w.heap.size w.drew T R J) A vs ha hb ⟨Below.refl _ _, fun _ _ h => absurd h (by simp), h0⟩ (fun i o ho => ?_) fun S vs W hS hI => ?_
  · intro S vs W K hSi hd hcl ⟨hB, hRs, hJs⟩ hK
    cases hT : T i
    · refine hplain i o hT ho S vs W K hB hd (fun j hj hw => hRs j hj (hd j hw)) hJs fun v W' hb' hr => hK v W' ⟨hB.trans (hb'.mono hB.size), fun j hj hSj => ?_, ?_⟩
      · by_cases e : j = i
        · subst e; simpa [upd] using hr
        · have : S j = true := by simpa [upS, e] using hSj
          simp only [upd, if_neg e]
          exact hR j _ W W' (hRs j hj this) hb'
      · refine hJ S _ vs _ W W' (fun j hj => ?_) hJs hb'
        have e : j ≠ i := fun e => by subst e; rw [hT] at hj; cases hj
        simp [upS, upd, e]
    · refine htied i o hT ho S vs W K hB hSi hd hcl (fun j hj hw => hRs j hj (hd j hw)) hJs fun v W' hb' hr hj' => hK v W' ⟨hb', fun j hj hSj => ?_, hj'⟩
      have e : j ≠ i := fun e => by subst e; rw [hT] at hj; cases hj
      have : S j = true := by simpa [upS, e] using hSj
      simp only [upd, if_neg e]
      exact hr j _ hj (hRs j hj this)
  · exact hfin S vs W hI.1 hS (fun i hi hT => hI.2.1 i hT (hS i hi)) hI.2.2
end

end Go.Proofs.Ytkbiopjinegckaa
