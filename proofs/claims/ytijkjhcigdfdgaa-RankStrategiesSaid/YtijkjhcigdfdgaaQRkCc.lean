/- Games: the two Valid, Small, Greatest, Swap, Part, Solve; slices; rows of one's own; drawn regions. -/
import Derived.Test.YtijkjhcigdfdgaaQRkCb
namespace Go.Proofs.Ytijkjhcigdfdgaa
open Go.RowKit
open Go Go.RowKit
open Go.RowKit Go.Maps Go.WideMaps

section
variable {P : Program} {ops : Array Oper} {Q : Exit → Act → World → Prop}
def PStep (P : Program) (Q : Exit → Act → World → Prop) (ops : Array Oper) (R : Nat → Value → Prop) (I : (Nat → Bool) → World → Prop) (A : (Nat → Value) → Act) (i : Nat) (o : Oper) : Prop :=
  ∀ (S : Nat → Bool) (vs : Nat → Value) (W : World) (K : Act → World → Prop), S i = false → (∀ j, waitsB ops j i = true → R j (vs j)) → (∀ j, waitsB ops j i = true → S j = true) → I S W →
    (∀ v W', R i v → I (upS S i) W' → K (A (upd vs i v)) W') →
    if Region.wanted o (yielded ops (A vs).tmps) = true then Oper.wp P o (A vs) W K Q else K ((A vs).put o.dst undef) W
end

section
variable {P : Program} {ops : Array Oper} {Q : Exit → Act → World → Prop}
theorem region_pure {id : Nat} {a : Act} {w : World} (hm : P.follows .mixedOrders = true) (R : Nat → Value → Prop) (I : (Nat → Bool) → World → Prop) (A : (Nat → Value) → Act) (vs : Nat → Value) (ha : a = A vs) (hb : backB .any ops = true)
    (h0 : I (fun _ => false) w.drew)
    (hstep : ∀ i o, ops[i]? = some o → PStep P Q ops R I A i o)
    (hfin : ∀ S vs W, (∀ i, i < ops.size → S i = true) → (∀ i, i < ops.size → R i (vs i)) → I S W → Q .normal (A vs) W) : (Code.region id ops true).wp P Q a w := by
  refine region_inv hm (fun S vs W => (∀ i, S i = true → R i (vs i)) ∧ I S W) A vs ha hb ⟨fun _ h => absurd h (by simp), h0⟩ (fun i o ho => ?_) fun S vs W hS hI => hfin S vs W hS (fun i hi => hI.1 i (hS i hi)) hI.2
  intro S vs W K hSi hd _ ⟨hR, hI⟩ hK
  refine hstep i o ho S vs W K hSi (fun j hj => hR j (hd j hj)) hd hI fun v W' hr hi => hK v W' ⟨fun j hj => ?_, hi⟩
  by_cases e : j = i
  · subst e; simpa [upd] using hr
  · have : S j = true := by simpa [upS, e] using hj
    simp only [upd, if_neg e]
    exact hR j this
end

section
variable {P : Program} {ops : Array Oper} {Q : Exit → Act → World → Prop}
/-- What operation p waits for, through others too. -/
def ancL (ops : Array Oper) (p : Nat) : List Nat :=
  (List.range (p + 1)).reverse.foldl (fun acc j => if acc.contains j then acc ++ (match ops[j]? with | some o => (o.after.toList.filter fun e => Region.binds .any e).map (·.on) | none => []) else acc) [p]
end

section
variable {P : Program} {ops : Array Oper} {Q : Exit → Act → World → Prop}
theorem ancL_in {S : Nat → Bool} (hc : Cl ops S) {p : Nat} (hp : S p = true) : ∀ i ∈ ancL ops p, S i = true := by
  unfold ancL
  have key : ∀ (js : List Nat) (acc : List Nat), (∀ i ∈ acc, S i = true) → ∀ i ∈ js.foldl (fun acc j => if acc.contains j then acc ++ (match ops[j]? with | some o => (o.after.toList.filter fun e => Region.binds .any e).map (·.on) | none => []) else acc) acc, S i = true := by
    intro js
    induction js with
    | nil => intro acc h i hi; exact h i hi
    | cons j js ih =>
      intro acc h i hi
      rw [List.foldl_cons] at hi
      refine ih _ (fun i hi => ?_) i hi
      split at hi
      · rename_i hj
        rcases List.mem_append.1 hi with hi | hi
        · exact h i hi
        · split at hi
          · rename_i o ho
            obtain ⟨e, he, rfl⟩ := List.mem_map.1 hi
            obtain ⟨he1, he2⟩ := List.mem_filter.1 he
            refine hc e.on j ?_ (h j (by simpa using hj))
            unfold waitsB
            rw [ho]
            exact List.any_eq_true.2 ⟨e, he1, by simp [he2]⟩
          · cases hi
      · exact h i hi
  exact key _ [p] fun i hi => by rw [List.mem_singleton.1 hi]; exact hp
end

section
variable {P : Program} {ops : Array Oper} {Q : Exit → Act → World → Prop}
def growB (ops : Array Oper) (p m : Nat) (free : Nat → Bool) : Bool := decide (p < m) && backB .any ops && (decide (ops.size = m + 1) && (List.range m).all fun i => (List.range m).any fun j => waitsB ops j m && (ancL ops j).contains i) && (List.range m).all fun i => i == p || free i || (!free i && (ancL ops p).contains i)
end

section
variable {P : Program} {ops : Array Oper} {Q : Exit → Act → World → Prop}
def GrInv (R : Nat → Value → World → Prop) (App : Value → World → World → Prop) (Fin : Value → Value → World → Prop) (p m : Nat) (vm : Value) (w : World) (S : Nat → Bool) (vs : Nat → Value) (W : World) : Prop :=
  (S m = false → vs m = vm) ∧
  (S m = false → S p = false → Below w.heap.size w W ∧ ∀ i, i < m → S i = true → R i (vs i) W) ∧
  (S m = false → S p = true → ∃ W9, Below w.heap.size w W9 ∧ (∀ i, i < m → i ≠ p → S i = true → R i (vs i) W9) ∧ App (vs p) W9 W) ∧
  (S m = true → (∀ i, i < m → i ≠ p → ∃ W9, R i (vs i) W9) ∧ Fin (vs p) (vs m) W)
end

section
variable {P : Program} {ops : Array Oper} {Q : Exit → Act → World → Prop}
/-- An operation ahead of the append. -/
def GrStep (P : Program) (Q : Exit → Act → World → Prop) (ops : Array Oper) (R : Nat → Value → World → Prop) (A : (Nat → Value) → Act) (m0 : Nat) (vm : Value) (w : World) (i : Nat) (o : Oper) : Prop :=
  ∀ (vs : Nat → Value) (W : World) (K : Act → World → Prop), vs m0 = vm → Below w.heap.size w W → (∀ j, waitsB ops j i = true → R j (vs j) W) → (∀ v W', Below W.heap.size W W' → R i v W' → K (A (upd vs i v)) W') →
    if Region.wanted o (yielded ops (A vs).tmps) = true then Oper.wp P o (A vs) W K Q else K ((A vs).put o.dst undef) W
end

section
variable {P : Program} {ops : Array Oper} {Q : Exit → Act → World → Prop}
/-- An operation that does not look at memory. -/
def GrFree (P : Program) (Q : Exit → Act → World → Prop) (ops : Array Oper) (R : Nat → Value → World → Prop) (A : (Nat → Value) → Act) (m0 : Nat) (vm : Value) (p i : Nat) (o : Oper) : Prop :=
  ∀ (vs : Nat → Value) (W : World) (K : Act → World → Prop), vs m0 = vm → (∀ j, j ≠ p → waitsB ops j i = true → ∃ W9, R j (vs j) W9) → (∀ v, (∀ W, R i v W) → K (A (upd vs i v)) W) →
    if Region.wanted o (yielded ops (A vs).tmps) = true then Oper.wp P o (A vs) W K Q else K ((A vs).put o.dst undef) W
end

section
variable {P : Program} {ops : Array Oper} {Q : Exit → Act → World → Prop}
/-- The append. -/
def GrApp (P : Program) (Q : Exit → Act → World → Prop) (ops : Array Oper) (R : Nat → Value → World → Prop) (App : Value → World → World → Prop) (A : (Nat → Value) → Act) (m0 : Nat) (vm : Value) (w : World) (i : Nat) (o : Oper) : Prop :=
  ∀ (vs : Nat → Value) (W : World) (K : Act → World → Prop), vs m0 = vm → Below w.heap.size w W → (∀ j, waitsB ops j i = true → R j (vs j) W) → (∀ v W', App v W W' → K (A (upd vs i v)) W') →
    if Region.wanted o (yielded ops (A vs).tmps) = true then Oper.wp P o (A vs) W K Q else K ((A vs).put o.dst undef) W
end

section
variable {P : Program} {ops : Array Oper} {Q : Exit → Act → World → Prop}
/-- The store. -/
def GrLast (P : Program) (Q : Exit → Act → World → Prop) (ops : Array Oper) (R : Nat → Value → World → Prop) (App : Value → World → World → Prop) (Fin : Value → Value → World → Prop) (A : (Nat → Value) → Act) (m0 : Nat) (vm : Value) (w : World) (p m : Nat) (o : Oper) : Prop :=
  ∀ (vs : Nat → Value) (W9 W : World) (K : Act → World → Prop), vs m0 = vm → Below w.heap.size w W9 → (∀ i, i < m → i ≠ p → R i (vs i) W9) → App (vs p) W9 W → (∀ v W', Fin (vs p) v W' → K (A (upd vs m v)) W') →
    if Region.wanted o (yielded ops (A vs).tmps) = true then Oper.wp P o (A vs) W K Q else K ((A vs).put o.dst undef) W
end

section
variable {P : Program} {ops : Array Oper} {Q : Exit → Act → World → Prop}
theorem upS_at {S : Nat → Bool} {i : Nat} : upS S i i = true := if_pos rfl
end

section
variable {P : Program} {ops : Array Oper} {Q : Exit → Act → World → Prop}
theorem upS_no {S : Nat → Bool} {i j : Nat} (h : j ≠ i) : upS S i j = S j := if_neg h
end

section
variable {P : Program} {ops : Array Oper} {Q : Exit → Act → World → Prop}
theorem upd_no {vs : Nat → Value} {i j : Nat} {v : Value} (h : j ≠ i) : upd vs i v j = vs j := if_neg h
end

section
variable {P : Program} {ops : Array Oper} {Q : Exit → Act → World → Prop}
theorem upd_at {vs : Nat → Value} {i : Nat} {v : Value} : upd vs i v i = v := if_pos rfl
end

section
variable {P : Program} {ops : Array Oper} {Q : Exit → Act → World → Prop}
theorem region_grow {id : Nat} {a : Act} {w : World} (hm : P.follows .mixedOrders = true) (R : Nat → Value → World → Prop) (App : Value → World → World → Prop) (Fin : Value → Value → World → Prop) (free : Nat → Bool) (p m : Nat) (A : (Nat → Value) → Act) (vs0 : Nat → Value) (ha : a = A vs0)
    (hg : growB ops p m free = true) (hR : ∀ i v W W', R i v W → Below W.heap.size W W' → R i v W')
    (hstep : ∀ i o, ops[i]? = some o → if i = p then GrApp P Q ops R App A m (vs0 m) w.drew i o else if i = m then GrLast P Q ops R App Fin A m (vs0 m) w.drew p m o else if free i = true then GrFree P Q ops R A m (vs0 m) p i o else GrStep P Q ops R A m (vs0 m) w.drew i o)
    (hfin : ∀ vs W, (∀ i, i < m → i ≠ p → ∃ W9, R i (vs i) W9) → Fin (vs p) (vs m) W → Q .normal (A vs) W) :
    (Code.region id ops true).wp P Q a w := by
  simp only [growB, Bool.and_eq_true, decide_eq_true_eq, List.all_eq_true, List.mem_range, List.any_eq_true, List.contains_iff_mem] at hg
  obtain ⟨⟨⟨hpm, hb⟩, hsz, hla⟩, hall⟩ := hg
  have hlast : ∀ S, Cl ops S → S m = true → ∀ i, i < m → S i = true := fun S hc hS i hi => by
    obtain ⟨j, hj, hw, hi'⟩ := hla i hi
    exact ancL_in hc (hc j m hw hS) i hi'
  refine region_inv hm (GrInv R App Fin p m (vs0 m) w.drew) A vs0 ha hb ⟨fun _ => rfl, fun _ _ => ⟨Below.refl _ _, fun _ _ h => (nomatch h)⟩, fun _ h => (nomatch h), fun h => (nomatch h)⟩ (fun i o ho => ?_) fun S vs W hS hJ => hfin vs W (hJ.2.2.2 (hS m (by omega))).1 (hJ.2.2.2 (hS m (by omega))).2
  intro S vs W K hSi hd hcl hJ hK
  have hio : i < ops.size := (Array.getElem?_eq_some_iff.1 ho).1
  have hwl : ∀ j, waitsB ops j i = true → j < i := fun j hj => by
    obtain ⟨o', ho', e, he, hbd, hon⟩ := waits_spec hj
    rw [← hon]
    exact backB_spec hb ho' e he hbd
  have hs := hstep i o ho
  by_cases hip : i = p
  · rw [if_pos hip] at hs
    subst hip
    have hSm : S m = false := by
      cases e : S m
      · rfl
      · have := hlast S hcl e i hpm; rw [hSi] at this; cases this
    obtain ⟨hB, hRs⟩ := hJ.2.1 hSm hSi
    refine hs vs W K (hJ.1 hSm) hB (fun j hj => hRs j (Nat.lt_trans (hwl j hj) hpm) (hd j hj)) fun v W' hA => hK v W' ⟨fun h => by rw [upd_no (by omega)]; exact hJ.1 hSm, fun _ h => ?_, fun _ _ => ⟨W, hB, fun j hj hne hSj => ?_, ?_⟩, fun h => ?_⟩
    · rw [upS_at] at h; cases h
    · rw [upS_no hne] at hSj
      rw [upd_no hne]
      exact hRs j hj hSj
    · rw [upd_at]; exact hA
    · rw [upS_no (by omega), hSm] at h; cases h
  · rw [if_neg hip] at hs
    by_cases him : i = m
    · rw [if_pos him] at hs
      subst him
      have hSall : ∀ j, j < i → S j = true := fun j hj => by
        obtain ⟨u, hu, hw, hi'⟩ := hla j hj
        exact ancL_in hcl (hd u hw) j hi'
      have hSp : S p = true := hSall p hpm
      obtain ⟨W9, hB, hRs, hA⟩ := hJ.2.2.1 hSi hSp
      refine hs vs W9 W K (hJ.1 hSi) hB (fun j hj hne => hRs j hj hne (hSall j hj)) hA fun v W' hQ => hK v W' ⟨fun h => ?_, fun h => ?_, fun h => ?_, fun _ => ⟨fun j hj hne => ⟨W9, ?_⟩, ?_⟩⟩
      · rw [upS_at] at h; cases h
      · rw [upS_at] at h; cases h
      · rw [upS_at] at h; cases h
      · rw [upd_no (by omega)]; exact hRs j hj hne (hSall j hj)
      · rw [upd_no (by omega), upd_at]; exact hQ
    · rw [if_neg him] at hs
      have hi : i < m := by omega
      have hSm : S m = false := by
        cases e : S m
        · rfl
        · have := hlast S hcl e i hi; rw [hSi] at this; cases this
      by_cases hf : free i = true
      · rw [if_pos hf] at hs
        refine hs vs W K (hJ.1 hSm) (fun j hjp hj => ?_) fun v hv => hK v W ⟨fun h => by rw [upd_no (by omega)]; exact hJ.1 hSm, fun _ h => ?_, fun _ h => ?_, fun h => ?_⟩
        · have hji := hwl j hj
          cases e : S p
          · exact ⟨W, (hJ.2.1 hSm e).2 j (by omega) (hd j hj)⟩
          · obtain ⟨W9, _, h2, h3⟩ := hJ.2.2.1 hSm e
            exact ⟨W9, h2 j (by omega) hjp (hd j hj)⟩
        · rw [upS_no (fun e => hip e.symm)] at h
          obtain ⟨h1, h2⟩ := hJ.2.1 hSm h
          refine ⟨h1, fun j hj hSj => ?_⟩
          by_cases e : j = i
          · subst e; rw [upd_at]; exact hv W
          · rw [upS_no e] at hSj
            rw [upd_no e]; exact h2 j hj hSj
        · rw [upS_no (fun e => hip e.symm)] at h
          obtain ⟨W9, h1, h2, h3⟩ := hJ.2.2.1 hSm h
          refine ⟨W9, h1, fun j hj hne hSj => ?_, by rw [upd_no (fun e => hip e.symm)]; exact h3⟩
          by_cases e : j = i
          · subst e; rw [upd_at]; exact hv W9
          · rw [upS_no e] at hSj
            rw [upd_no e]; exact h2 j hj hne hSj
        · rw [upS_no (by omega), hSm] at h; cases h
      · rw [if_neg hf] at hs
        have hSp : S p = false := by
          cases e : S p
          · rfl
          · have h1 := hall i hi
            simp only [Bool.or_eq_true, Bool.and_eq_true, beq_iff_eq, List.contains_iff_mem] at h1
            have : S i = true := by
              rcases h1 with (h1 | h1) | h1
              · exact absurd h1 hip
              · exact absurd h1 hf
              · exact ancL_in hcl e i h1.2
            rw [hSi] at this; cases this
        obtain ⟨hB, hRs⟩ := hJ.2.1 hSm hSp
        refine hs vs W K (hJ.1 hSm) hB (fun j hj => hRs j (Nat.lt_trans (hwl j hj) hi) (hd j hj)) fun v W' hb' hr => hK v W' ⟨fun h => by rw [upd_no (by omega)]; exact hJ.1 hSm, fun _ _ => ⟨hB.trans (hb'.mono hB.size), fun j hj hSj => ?_⟩, fun _ h => ?_, fun h => ?_⟩
        · by_cases e : j = i
          · subst e; rw [upd_at]; exact hr
          · rw [upS_no e] at hSj
            rw [upd_no e]; exact hR j _ W W' (hRs j hj hSj) hb'
        · rw [upS_no (fun e => hip e.symm), hSp] at h; cases h
        · rw [upS_no (by omega), hSm] at h; cases h
end

section
variable {P : Program} {ops : Array Oper} {Q : Exit → Act → World → Prop}
theorem region_grow4 {id : Nat} {a : Act} {w : World} (hm : P.follows .mixedOrders = true) (R : Nat → Value → World → Prop) (App : Value → World → World → Prop) (Fin : Value → Value → World → Prop) (free : Nat → Bool) (p m : Nat) (A : (Nat → Value) → Act) (vs0 : Nat → Value) (ha : a = A vs0)
    (hg : growB ops p m free = true) (hR : ∀ i v W W', R i v W → Below W.heap.size W W' → R i v W')
    (hstep : ∀ i o, i ≠ p → i ≠ m → free i = false → ops[i]? = some o → GrStep P Q ops R A m (vs0 m) w.drew i o)
    (hfree : ∀ i o, free i = true → ops[i]? = some o → GrFree P Q ops R A m (vs0 m) p i o)
    (happ : ∀ o, ops[p]? = some o → GrApp P Q ops R App A m (vs0 m) w.drew p o)
    (hlast : ∀ o, ops[m]? = some o → GrLast P Q ops R App Fin A m (vs0 m) w.drew p m o)
    (hfin : ∀ vs W, (∀ i, i < m → i ≠ p → ∃ W9, R i (vs i) W9) → Fin (vs p) (vs m) W → Q .normal (A vs) W) :
    (Code.region id ops true).wp P Q a w := by
  refine region_grow hm R App Fin free p m A vs0 ha hg hR (fun i o ho => ?_) hfin
  by_cases h1 : i = p
  · rw [if_pos h1]; subst h1; exact happ o ho
  · rw [if_neg h1]
    by_cases h2 : i = m
    · rw [if_pos h2]; subst h2; exact hlast o ho
    · rw [if_neg h2]
      by_cases h3 : free i = true
      · rw [if_pos h3]; exact hfree i o h3 ho
      · rw [if_neg h3]; exact hstep i o h1 h2 (by simpa using h3) ho
end

/-- A new row of numbers. -/
def FreshRow (B : Nat) (row : List Int) (y : Value) (W : World) : Prop := (∃ a c, y = .slice a row.length c) ∧ OI W B y row

theorem FreshRow.below {B : Nat} {row : List Int} {y : Value} {W W' : World} (h : FreshRow B row y W) (hb : Below W.heap.size W W') : FreshRow B row y W' := ⟨h.1, h.2.below hb⟩

/-- The element that 'append' is handed. -/
def FreshEl (B : Nat) (row : List Int) (v : Value) (W : World) : Prop := ∃ b y, v = .slice (some ⟨b, 0, none⟩) 1 1 ∧ W.heap[b]? = some (.cells #[y] 22 (0, 0)) ∧ FreshRow B row y W

theorem FreshEl.below {B : Nat} {row : List Int} {v : Value} {W W' : World} (h : FreshEl B row v W) (hb : Below W.heap.size W W') : FreshEl B row v W' := by
  obtain ⟨b, y, h1, h2, h3⟩ := h
  exact ⟨b, y, h1, (hb.block b (Array.getElem?_eq_some_iff.1 h2).1).trans h2, h3.below hb⟩

theorem FreshEl.made {B : Nat} {row : List Int} {y : Value} {W : World} (h : FreshRow B row y W) : FreshEl B row (.slice (some ⟨W.heap.size, 0, none⟩) 1 1) (W.alloc (.cells #[y] 22)) :=
  ⟨_, y, rfl, heap_alloc_new _ _, h.below (bel_box _)⟩

/-- One step or more. -/
inductive Plus (r : Nat → Nat → Prop) : Nat → Nat → Prop
  | one {a b : Nat} : r a b → Plus r a b
  | more {a b c : Nat} : r a b → Plus r b c → Plus r a c

section
variable {r s : Nat → Nat → Prop}
theorem Plus.trans {a b c : Nat} (h : Plus r a b) (k : Plus r b c) : Plus r a c := by
  induction h with
  | one h => exact .more h k
  | more h _ ih => exact .more h (ih k)
end

section
variable {r s : Nat → Nat → Prop}
theorem Plus.mono (h : ∀ a b, r a b → s a b) {a b : Nat} (k : Plus r a b) : Plus s a b := by
  induction k with
  | one k => exact .one (h _ _ k)
  | more k _ ih => exact .more (h _ _ k) ih
end

section
variable {r s : Nat → Nat → Prop}
/-- A set that is not left. -/
theorem Plus.keep {I : Nat → Prop} (hI : ∀ a b, r a b → I a → I b) {a b : Nat} (k : Plus r a b) (ha : I a) : Plus (fun a b => r a b ∧ I a ∧ I b) a b ∧ I b := by
  induction k with
  | one k => exact ⟨.one ⟨k, ha, hI _ _ k ha⟩, hI _ _ k ha⟩
  | more k _ ih =>
    have hb := hI _ _ k ha
    exact ⟨.more ⟨k, ha, hb⟩ (ih hb).1, (ih hb).2⟩
end

section
variable {r s : Nat → Nat → Prop}
theorem Plus.keepBack {I : Nat → Prop} (hI : ∀ a b, r a b → I a → I b) {a b : Nat} (k : Plus r a b) (hb : ¬ I b) : Plus (fun a b => r a b ∧ ¬ I a ∧ ¬ I b) a b ∧ ¬ I a := by
  induction k with
  | one k => exact ⟨.one ⟨k, fun h => hb (hI _ _ k h), hb⟩, fun h => hb (hI _ _ k h)⟩
  | more k _ ih =>
    obtain ⟨h1, h2⟩ := ih hb
    exact ⟨.more ⟨k, fun h => h2 (hI _ _ k h), h2⟩ h1, fun h => h2 (hI _ _ k h)⟩
end

section
variable {r s : Nat → Nat → Prop}
theorem Plus.falls {J : Nat → Prop} {ρ : Nat → Nat} (h : ∀ a b, r a b → J a → J b ∧ ρ b < ρ a) {a b : Nat} (k : Plus r a b) (ha : J a) : ρ b < ρ a := by
  induction k with
  | one k => exact (h _ _ k ha).2
  | more k _ ih =>
    obtain ⟨h1, h2⟩ := h _ _ k ha
    have := ih h1
    omega
end

section
variable {r s : Nat → Nat → Prop}
/-- A set that is not left, and that is reached unless numbers fall. -/
theorem Plus.rank {I : Nat → Prop} {ρ : Nat → Nat} (h1 : ∀ a b, r a b → I a → I b) (h2 : ∀ a b, r a b → ¬ I a → I b ∨ ρ b < ρ a) {a b : Nat} (k : Plus r a b) : I b ∨ (¬ I a ∧ ρ b < ρ a) := by
  induction k with
  | @one a b k =>
    by_cases ha : I a
    · exact .inl (h1 _ _ k ha)
    · rcases h2 _ _ k ha with h | h
      · exact .inl h
      · exact .inr ⟨ha, h⟩
  | @more a b c k _ ih =>
    rcases ih with h | ⟨hb, h⟩
    · exact .inl h
    · by_cases ha : I a
      · exact absurd (h1 _ _ k ha) hb
      · rcases h2 _ _ k ha with h' | h'
        · exact absurd h' hb
        · exact .inr ⟨ha, by omega⟩
end

def own (g : Gm) (i : Nat) : Int := g.owner.getD i 0

def pri (g : Gm) (i : Nat) : Int := g.prio.getD i 0

def Edge (g : Gm) (i j : Nat) : Prop := (j : Int) ∈ g.succ.getD i []

/-- The priority k, if it is the least one, is lost for p. -/
def Lost (p k : Int) : Prop := k % 2 ≠ p

/-- A move of a play with the strategy σ of p within D, at priorities of at least k. -/
def Step (g : Gm) (p : Int) (D : Nat → Prop) (σ : Nat → Nat) (k : Int) (u v : Nat) : Prop := D u ∧ D v ∧ Edge g u v ∧ k ≤ pri g u ∧ k ≤ pri g v ∧ (own g u = p → v = σ u)

/-- p wins everywhere in D with σ, in the game of the positions S. -/
structure WinsBy (g : Gm) (p : Int) (S D : Nat → Prop) (σ : Nat → Nat) : Prop where
  sub : ∀ i, D i → S i
  mine : ∀ i, D i → own g i = p → Edge g i (σ i) ∧ D (σ i)
  other : ∀ i, D i → own g i ≠ p → ∀ j, Edge g i j → S j → D j
  free : ∀ v, D v → Lost p (pri g v) → ¬ Plus (Step g p D σ (pri g v)) v v

/-- A dominion. -/
def Dom (g : Gm) (p : Int) (S D : Nat → Prop) : Prop := ∃ σ, WinsBy g p S D σ

section
variable {g : Gm} {p q : Int} {S R I D D' F T A W L : Nat → Prop} {σ τ : Nat → Nat}
theorem Dom.none (g : Gm) (p : Int) (S : Nat → Prop) : Dom g p S (fun _ => False) := ⟨fun i => i, fun _ h => h.elim, fun _ h => h.elim, fun _ h => h.elim, fun _ h => h.elim⟩
end

section
variable {g : Gm} {p q : Int} {S R I D D' F T A W L : Nat → Prop} {σ τ : Nat → Nat}
theorem Dom.congr (h : Dom g p S D) (e : ∀ i, D i ↔ D' i) : Dom g p S D' := by
  have : D = D' := funext fun i => propext (e i)
  rw [← this]; exact h
end

section
variable {g : Gm} {p q : Int} {S R I D D' F T A W L : Nat → Prop} {σ τ : Nat → Nat}
theorem Dom.congrS (h : Dom g p S D) (e : ∀ i, S i ↔ R i) : Dom g p R D := by
  have : S = R := funext fun i => propext (e i)
  rw [← this]; exact h
end

section
variable {g : Gm} {p q : Int} {S R I D D' F T A W L : Nat → Prop} {σ τ : Nat → Nat}
open Classical in
/-- What is attracted to a dominion is one. -/
theorem WinsBy.attract (h : WinsBy g p S D σ) (ρ : Nat → Nat) (hsub : ∀ i, D i → D' i) (hS : ∀ i, D' i → S i)
    (hm : ∀ i, D' i → ¬ D i → own g i = p → ∃ j, Edge g i j ∧ D' j ∧ (D j ∨ ρ j < ρ i)) (ho : ∀ i, D' i → ¬ D i → own g i ≠ p → ∀ j, Edge g i j → S j → D' j ∧ (D j ∨ ρ j < ρ i)) : Dom g p S D' := by
  have hc : ∀ i, ∃ j, D' i → ¬ D i → own g i = p → Edge g i j ∧ D' j ∧ (D j ∨ ρ j < ρ i) := fun i => by
    by_cases h1 : D' i ∧ ¬ D i ∧ own g i = p
    · obtain ⟨j, hj⟩ := hm i h1.1 h1.2.1 h1.2.2
      exact ⟨j, fun _ _ _ => hj⟩
    · exact ⟨0, fun a b c => absurd ⟨a, b, c⟩ h1⟩
  obtain ⟨τ, hτ⟩ := Classical.axiomOfChoice hc
  refine ⟨fun i => if D i then σ i else τ i, hS, fun i hi hp => ?_, fun i hi hp j he hj => ?_, fun v hv hl hP => ?_⟩
  · by_cases hd : D i
    · simp only [if_pos hd]
      obtain ⟨h1, h2⟩ := h.mine i hd hp
      exact ⟨h1, hsub _ h2⟩
    · simp only [if_neg hd]
      exact ⟨(hτ i hi hd hp).1, (hτ i hi hd hp).2.1⟩
  · by_cases hd : D i
    · exact hsub _ (h.other i hd hp j he hj)
    · exact (ho i hi hd hp j he hj).1
  · have h1 : ∀ a b, Step g p D' (fun i => if D i then σ i else τ i) (pri g v) a b → D a → D b := fun a b ⟨_, hb, he, _, _, hs⟩ hd => by
      by_cases hp : own g a = p
      · have := hs hp
        simp only [if_pos hd] at this
        rw [this]; exact (h.mine a hd hp).2
      · exact h.other a hd hp b he (hS b hb)
    have h2 : ∀ a b, Step g p D' (fun i => if D i then σ i else τ i) (pri g v) a b → ¬ D a → D b ∨ ρ b < ρ a := fun a b ⟨ha, hb, he, _, _, hs⟩ hd => by
      by_cases hp : own g a = p
      · have := hs hp
        simp only [if_neg hd] at this
        rw [this]; exact (hτ a ha hd hp).2.2
      · exact (ho a ha hd hp b he (hS b hb)).2
    have hdv : D v := by
      rcases hP.rank h1 h2 with h | ⟨_, h⟩
      · exact h
      · omega
    refine h.free v hdv hl ((hP.keep h1 hdv).1.mono fun a b ⟨⟨_, _, he, k1, k2, hs⟩, ha, hb⟩ => ⟨ha, hb, he, k1, k2, fun hp => ?_⟩)
    have := hs hp
    simpa only [if_pos ha] using this
end

section
variable {g : Gm} {p q : Int} {S R I D D' F T A W L : Nat → Prop} {σ τ : Nat → Nat}
open Classical in
/-- The whole game, if p wins everywhere outside of what it attracts to its best positions. -/
theorem WinsBy.all (h : WinsBy g p I I σ) (ρ : Nat → Nat) (hI : ∀ i, I i → S i) (low : ∀ t, T t → ∀ v, S v → Lost p (pri g v) → pri g t < pri g v)
    (total : ∀ i, S i → ∃ j, Edge g i j ∧ S j) (hm : ∀ i, S i → ¬ I i → ¬ T i → own g i = p → ∃ j, Edge g i j ∧ S j ∧ ¬ I j ∧ (T j ∨ ρ j < ρ i))
    (ho : ∀ i, S i → ¬ I i → ¬ T i → own g i ≠ p → ∀ j, Edge g i j → S j → ¬ I j ∧ (T j ∨ ρ j < ρ i)) : Dom g p S S := by
  have hc : ∀ i, ∃ j, (S i → ¬ I i → ¬ T i → own g i = p → Edge g i j ∧ S j ∧ ¬ I j ∧ (T j ∨ ρ j < ρ i)) ∧ (S i → T i → Edge g i j ∧ S j) := fun i => by
    by_cases h1 : S i ∧ ¬ I i ∧ ¬ T i ∧ own g i = p
    · obtain ⟨j, hj⟩ := hm i h1.1 h1.2.1 h1.2.2.1 h1.2.2.2
      exact ⟨j, fun _ _ _ _ => hj, fun _ ht => absurd ht h1.2.2.1⟩
    · by_cases h2 : S i
      · obtain ⟨j, hj⟩ := total i h2
        exact ⟨j, fun a b c d => absurd ⟨a, b, c, d⟩ h1, fun _ _ => hj⟩
      · exact ⟨0, fun a => absurd a h2, fun a => absurd a h2⟩
  obtain ⟨τ, hτ⟩ := Classical.axiomOfChoice hc
  refine ⟨fun i => if I i then σ i else τ i, fun _ h => h, fun i hi hp => ?_, fun i _ _ j _ hj => hj, fun v hv hl hP => ?_⟩
  · by_cases hd : I i
    · simp only [if_pos hd]
      obtain ⟨h1, h2⟩ := h.mine i hd hp
      exact ⟨h1, hI _ h2⟩
    · simp only [if_neg hd]
      by_cases ht : T i
      · exact (hτ i).2 hi ht
      · obtain ⟨h1, h2, -⟩ := (hτ i).1 hi hd ht hp
        exact ⟨h1, h2⟩
  · have nt : ∀ a, S a → pri g v ≤ pri g a → ¬ T a := fun a ha hk ht => by have := low a ht v hv hl; omega
    have h1 : ∀ a b, Step g p S (fun i => if I i then σ i else τ i) (pri g v) a b → ¬ I a → ¬ I b ∧ ρ b < ρ a := fun a b ⟨ha, hb, he, k1, k2, hs⟩ hd => by
      have hta := nt a ha k1
      have htb := nt b hb k2
      by_cases hp : own g a = p
      · have e := hs hp
        simp only [if_neg hd] at e
        obtain ⟨-, -, h3, h4⟩ := (hτ a).1 ha hd hta hp
        rw [← e] at h3 h4
        exact ⟨h3, h4.resolve_left htb⟩
      · obtain ⟨h3, h4⟩ := ho a ha hd hta hp b he hb
        exact ⟨h3, h4.resolve_left htb⟩
    by_cases hIv : I v
    · obtain ⟨h2, -⟩ := hP.keepBack (I := fun i => ¬ I i) (fun a b hs ha => (h1 a b hs ha).1) (fun hn => hn hIv)
      refine h.free v hIv hl (h2.mono fun a b ⟨⟨_, _, he, k1, k2, hs⟩, ha, hb⟩ => ?_)
      have ha := Classical.not_not.1 ha
      have hb := Classical.not_not.1 hb
      refine ⟨ha, hb, he, k1, k2, fun hp => ?_⟩
      have := hs hp
      simpa only [if_pos ha] using this
    · have := hP.falls (J := fun i => ¬ I i) h1 hIv
      omega
end

section
variable {g : Gm} {p q : Int} {S R I D D' F T A W L : Nat → Prop} {σ τ : Nat → Nat}
/-- A dominion of a part that the other one cannot leave is one of the game. -/
theorem WinsBy.lift (h : WinsBy g q I L σ) (hIS : ∀ i, I i → S i) (trap : ∀ i, I i → own g i ≠ q → ∀ j, Edge g i j → S j → I j) : WinsBy g q S L σ :=
  ⟨fun i hi => hIS i (h.sub i hi), h.mine, fun i hi hp j he hj => h.other i hi hp j he (trap i (h.sub i hi) hp j he hj), h.free⟩
end

section
variable {g : Gm} {p q : Int} {S R I D D' F T A W L : Nat → Prop} {σ τ : Nat → Nat}
open Classical in
/-- A dominion, and one of the game without it. -/
theorem WinsBy.union (hF : WinsBy g q S F σ) (hW : WinsBy g q R W τ) (hR : ∀ i, R i ↔ S i ∧ ¬ F i) : Dom g q S (fun i => F i ∨ W i) := by
  refine ⟨fun i => if F i then σ i else τ i, fun i hi => hi.elim (hF.sub i) fun h => ((hR i).1 (hW.sub i h)).1, fun i hi hp => ?_, fun i hi hp j he hj => ?_, fun v hv hl hP => ?_⟩
  · by_cases hd : F i
    · simp only [if_pos hd]
      exact ⟨(hF.mine i hd hp).1, .inl (hF.mine i hd hp).2⟩
    · simp only [if_neg hd]
      have hw := hi.resolve_left hd
      exact ⟨(hW.mine i hw hp).1, .inr (hW.mine i hw hp).2⟩
  · by_cases hd : F i
    · exact .inl (hF.other i hd hp j he hj)
    · by_cases hj2 : F j
      · exact .inl hj2
      · exact .inr (hW.other i (hi.resolve_left hd) hp j he ((hR j).2 ⟨hj, hj2⟩))
  · have hS : ∀ i, F i ∨ W i → S i := fun i hi => hi.elim (hF.sub i) fun h => ((hR i).1 (hW.sub i h)).1
    have h1 : ∀ a b, Step g q (fun i => F i ∨ W i) (fun i => if F i then σ i else τ i) (pri g v) a b → F a → F b := fun a b ⟨_, hb, he, _, _, hs⟩ hd => by
      by_cases hp : own g a = q
      · have := hs hp
        simp only [if_pos hd] at this
        rw [this]; exact (hF.mine a hd hp).2
      · exact hF.other a hd hp b he (hS b hb)
    by_cases hd : F v
    · refine hF.free v hd hl ((hP.keep h1 hd).1.mono fun a b ⟨⟨_, _, he, k1, k2, hs⟩, ha, hb⟩ => ⟨ha, hb, he, k1, k2, fun hp => ?_⟩)
      have := hs hp
      simpa only [if_pos ha] using this
    · refine hW.free v (hv.resolve_left hd) hl ((hP.keepBack h1 hd).1.mono fun a b ⟨⟨a1, b1, he, k1, k2, hs⟩, ha, hb⟩ => ⟨a1.resolve_left ha, b1.resolve_left hb, he, k1, k2, fun hp => ?_⟩)
      have := hs hp
      simpa only [if_neg ha] using this
end

/-- Among n + 1 values below n two are equal. -/
theorem pigeon : ∀ (n : Nat) (f : Nat → Nat), (∀ i, i ≤ n → f i < n) → ∃ i j, i < j ∧ j ≤ n ∧ f i = f j
  | 0, f, h => absurd (h 0 (Nat.le_refl _)) (by omega)
  | n + 1, f, h => by
    by_cases hr : ∃ i, i ≤ n ∧ f i = f (n + 1)
    · obtain ⟨i, hi, e⟩ := hr
      exact ⟨i, n + 1, by omega, Nat.le_refl _, e⟩
    · have hne : ∀ i, i ≤ n → f i ≠ f (n + 1) := fun i hi e => hr ⟨i, hi, e⟩
      have hl := h (n + 1) (Nat.le_refl _)
      obtain ⟨i, j, h1, h2, h3⟩ := pigeon n (fun i => if f i = n then f (n + 1) else f i) fun i hi => by
        have := h i (by omega)
        have := hne i hi
        split <;> omega
      refine ⟨i, j, h1, by omega, ?_⟩
      have ei := hne i (by omega)
      have ej := hne j h2
      split at h3 <;> split at h3 <;> omega

theorem least_of (f : Nat → Int) (a : Nat) : ∀ n, ∃ m, a ≤ m ∧ m ≤ a + n ∧ ∀ t, a ≤ t → t ≤ a + n → f m ≤ f t
  | 0 => ⟨a, Nat.le_refl _, by omega, fun t h1 h2 => by rw [show t = a by omega]; exact Int.le_refl _⟩
  | n + 1 => by
    obtain ⟨m, h1, h2, h3⟩ := least_of f a n
    by_cases h : f m ≤ f (a + n + 1)
    · refine ⟨m, h1, by omega, fun t t1 t2 => ?_⟩
      by_cases ht : t = a + n + 1
      · rw [ht]; exact h
      · exact h3 t t1 (by omega)
    · refine ⟨a + n + 1, by omega, by omega, fun t t1 t2 => ?_⟩
      by_cases ht : t = a + n + 1
      · rw [ht]; exact Int.le_refl _
      · have := h3 t t1 (by omega)
        omega

def iter (f : Nat → Nat) (v : Nat) : Nat → Nat
  | 0 => v
  | k + 1 => f (iter f v k)

section
variable {g : Gm} {S R D0 D1 F : Nat → Prop} {σ τ : Nat → Nat}
open Classical in
/-- Dominions of different players have no position in common. -/
theorem WinsBy.disjoint {n : Nat} (h0 : WinsBy g 0 S D0 σ) (h1 : WinsBy g 1 S D1 τ) (hn : ∀ i, S i → i < n) (ho : ∀ i, S i → own g i = 0 ∨ own g i = 1) (v : Nat) (hv0 : D0 v) (hv1 : D1 v) : False := by
  obtain ⟨f, hf⟩ : ∃ f : Nat → Nat, f = fun u => if own g u = 0 then σ u else τ u := ⟨_, rfl⟩
  have hB : ∀ u, D0 u → D1 u → D0 (f u) ∧ D1 (f u) ∧ Edge g u (f u) ∧ (own g u = 0 → f u = σ u) ∧ (own g u = 1 → f u = τ u) := fun u a b => by
    rcases ho u (h0.sub u a) with h | h
    · have e : f u = σ u := by rw [hf]; simp [h]
      obtain ⟨x1, x2⟩ := h0.mine u a h
      rw [e]
      exact ⟨x2, h1.other u b (by omega) _ x1 (h0.sub _ x2), x1, fun _ => rfl, fun h' => by omega⟩
    · have e : f u = τ u := by rw [hf]; simp [h]
      obtain ⟨x1, x2⟩ := h1.mine u b h
      rw [e]
      exact ⟨h0.other u a (by omega) _ x1 (h1.sub _ x2), x2, x1, fun h' => by omega, fun _ => rfl⟩
  have hall : ∀ k, D0 (iter f v k) ∧ D1 (iter f v k) := fun k => by
    induction k with
    | zero => exact ⟨hv0, hv1⟩
    | succ k ih => exact ⟨(hB _ ih.1 ih.2).1, (hB _ ih.1 ih.2).2.1⟩
  obtain ⟨i, j, hij, -, he⟩ := pigeon n (iter f v) fun k _ => hn _ (h0.sub _ (hall k).1)
  obtain ⟨m, m1, m2, hmin⟩ := least_of (fun t => pri g (iter f v t)) i (j - 1 - i)
  have hmin' : ∀ t, i ≤ t → t ≤ j → pri g (iter f v m) ≤ pri g (iter f v t) := fun t t1 t2 => by
    by_cases ht : t = j
    · rw [ht, ← he]; exact hmin i (Nat.le_refl _) (by omega)
    · exact hmin t t1 (by omega)
  have key : ∀ (r : Nat → Nat → Prop), (∀ t, i ≤ t → t < j → r (iter f v t) (iter f v (t + 1))) → Plus r (iter f v m) (iter f v m) := fun r hr => by
    have path : ∀ d a, i ≤ a → a + d + 1 ≤ j → Plus r (iter f v a) (iter f v (a + d + 1)) := fun d => by
      induction d with
      | zero => exact fun a a1 a2 => .one (hr a a1 (by omega))
      | succ d ih =>
        intro a a1 a2
        have := ih (a + 1) (by omega) (by omega)
        rw [show a + 1 + d + 1 = a + (d + 1) + 1 by omega] at this
        exact .more (hr a a1 (by omega)) this
    have p1 := path (j - m - 1) m m1 (by omega)
    rw [show m + (j - m - 1) + 1 = j by omega, ← he] at p1
    by_cases hm : m = i
    · subst hm; exact p1
    · have p2 := path (m - i - 1) i (Nat.le_refl _) (by omega)
      rw [show i + (m - i - 1) + 1 = m by omega] at p2
      exact p1.trans p2
  have hpar : pri g (iter f v m) % 2 = 0 ∨ pri g (iter f v m) % 2 = 1 := by omega
  rcases hpar with hp | hp
  · refine h1.free _ (hall m).2 (by unfold Lost; omega) (key _ fun t t1 t2 => ?_)
    obtain ⟨a, b, c, -, e⟩ := hB _ (hall t).1 (hall t).2
    exact ⟨(hall t).2, b, c, hmin' t t1 (by omega), hmin' (t + 1) (by omega) (by omega), e⟩
  · refine h0.free _ (hall m).1 (by unfold Lost; omega) (key _ fun t t1 t2 => ?_)
    obtain ⟨a, b, c, e, -⟩ := hB _ (hall t).1 (hall t).2
    exact ⟨(hall t).1, a, c, hmin' t t1 (by omega), hmin' (t + 1) (by omega) (by omega), e⟩
end

section
variable {g : Gm} {p q : Int} {S R I D F T A W L : Nat → Prop} {σ τ : Nat → Nat} {won won' : Nat → Int}
/-- Each position of S has a successor in S. -/
def Total (g : Gm) (S : Nat → Prop) : Prop := ∀ i, S i → ∃ j, Edge g i j ∧ S j
end

section
variable {g : Gm} {p q : Int} {S R I D F T A W L : Nat → Prop} {σ τ : Nat → Nat} {won won' : Nat → Int}
/-- A is what p attracts to T within S. -/
structure AttIn (g : Gm) (p : Int) (S T A : Nat → Prop) : Prop where
  sub : ∀ i, A i → S i
  mem : ∀ i, T i → A i
  rank : ∃ ρ : Nat → Nat, ∀ i, A i → ¬ T i → (own g i = p → ∃ j, Edge g i j ∧ A j ∧ (T j ∨ ρ j < ρ i)) ∧ (own g i ≠ p → ∀ j, Edge g i j → S j → A j ∧ (T j ∨ ρ j < ρ i))
  mine : ∀ i, S i → ¬ A i → own g i = p → ∀ j, Edge g i j → ¬ A j
  other : ∀ i, S i → ¬ A i → own g i ≠ p → ∃ j, Edge g i j ∧ S j ∧ ¬ A j
end

section
variable {g : Gm} {p q : Int} {S R I D F T A W L : Nat → Prop} {σ τ : Nat → Nat} {won won' : Nat → Int}
theorem AttIn.total (h : AttIn g p S T A) (hS : Total g S) : Total g (fun i => S i ∧ ¬ A i) := fun i ⟨hi, ha⟩ => by
  by_cases ho : own g i = p
  · obtain ⟨j, h1, h2⟩ := hS i hi
    exact ⟨j, h1, h2, h.mine i hi ha ho j h1⟩
  · obtain ⟨j, h1, h2, h3⟩ := h.other i hi ha ho
    exact ⟨j, h1, h2, h3⟩
end

section
variable {g : Gm} {p q : Int} {S R I D F T A W L : Nat → Prop} {σ τ : Nat → Nat} {won won' : Nat → Int}
/-- Where no position is left out, the two closures tell the set. -/
theorem AttIn.dom (h : AttIn g p S T A) (hD : Dom g p S T) : Dom g p S A := by
  obtain ⟨σ, hD⟩ := hD
  obtain ⟨ρ, hρ⟩ := h.rank
  exact hD.attract ρ h.mem h.sub (fun i hi ht ho => (hρ i hi ht).1 ho) (fun i hi ht ho j he hj => (hρ i hi ht).2 ho j he hj)
end

section
variable {g : Gm} {p q : Int} {S R I D F T A W L : Nat → Prop} {σ τ : Nat → Nat} {won won' : Nat → Int}
/-- The winners of the positions of S. -/
structure Sol (g : Gm) (S : Nat → Prop) (won : Nat → Int) : Prop where
  two : ∀ i, S i → won i = 0 ∨ won i = 1
  d0 : Dom g 0 S (fun i => S i ∧ won i = 0)
  d1 : Dom g 1 S (fun i => S i ∧ won i = 1)
end

section
variable {g : Gm} {p q : Int} {S R I D F T A W L : Nat → Prop} {σ τ : Nat → Nat} {won won' : Nat → Int}
theorem Sol.dom (h : Sol g S won) (hp : p = 0 ∨ p = 1) : Dom g p S (fun i => S i ∧ won i = p) := by
  rcases hp with rfl | rfl
  · exact h.d0
  · exact h.d1
end

section
variable {g : Gm} {p q : Int} {S R I D F T A W L : Nat → Prop} {σ τ : Nat → Nat} {won won' : Nat → Int}
theorem Sol.of (h2 : ∀ i, S i → won i = 0 ∨ won i = 1) (h : ∀ p, p = 0 ∨ p = 1 → Dom g p S (fun i => S i ∧ won i = p)) : Sol g S won := ⟨h2, h 0 (.inl rfl), h 1 (.inr rfl)⟩
end

section
variable {g : Gm} {p q : Int} {S R I D F T A W L : Nat → Prop} {σ τ : Nat → Nat} {won won' : Nat → Int}
theorem Sol.congr (h : Sol g S won) (e : ∀ i, S i → won i = won' i) : Sol g S won' :=
  ⟨fun i hi => e i hi ▸ h.two i hi, h.d0.congr fun i => ⟨fun ⟨a, b⟩ => ⟨a, by rw [← e i a]; exact b⟩, fun ⟨a, b⟩ => ⟨a, by rw [e i a]; exact b⟩⟩,
    h.d1.congr fun i => ⟨fun ⟨a, b⟩ => ⟨a, by rw [← e i a]; exact b⟩, fun ⟨a, b⟩ => ⟨a, by rw [e i a]; exact b⟩⟩⟩
end

section
variable {g : Gm} {p q : Int} {S R I D F T A W L : Nat → Prop} {σ τ : Nat → Nat} {won won' : Nat → Int}
theorem Sol.congrS (h : Sol g S won) (e : ∀ i, S i ↔ R i) : Sol g R won := by
  have : S = R := funext fun i => propext (e i)
  rw [← this]; exact h
end

section
variable {g : Gm} {p q : Int} {S R I D F T A W L : Nat → Prop} {σ τ : Nat → Nat} {won won' : Nat → Int}
theorem Sol.empty (h : ∀ i, ¬ S i) : Sol g S won :=
  Sol.of (fun i hi => absurd hi (h i)) fun p _ => ((Dom.none g p S).congr fun i => ⟨fun x => x.elim, fun x => h i x.1⟩)
end

section
variable {g : Gm} {p q : Int} {S R I D F T A W L : Nat → Prop} {σ τ : Nat → Nat} {won won' : Nat → Int}
/-- The winners are determined. -/
theorem Sol.unique {n : Nat} (h : Sol g S won) (h' : Sol g S won') (hn : ∀ i, S i → i < n) (ho : ∀ i, S i → own g i = 0 ∨ own g i = 1) (i : Nat) (hi : S i) : won i = won' i := by
  obtain ⟨σ, a0⟩ := h.d0
  obtain ⟨τ, a1⟩ := h.d1
  obtain ⟨σ', b0⟩ := h'.d0
  obtain ⟨τ', b1⟩ := h'.d1
  rcases h.two i hi with e | e <;> rcases h'.two i hi with e' | e'
  · rw [e, e']
  · exact (a0.disjoint b1 hn ho i ⟨hi, e⟩ ⟨hi, e'⟩).elim
  · exact (b0.disjoint a1 hn ho i ⟨hi, e'⟩ ⟨hi, e⟩).elim
  · rw [e, e']
end

section
variable {g : Gm} {p q : Int} {S R I D F T A W L : Nat → Prop} {σ τ : Nat → Nat} {won won' : Nat → Int}
/-- A dominion is part of what its player wins. -/
theorem Sol.has {n : Nat} (h : Sol g S won) (hD : Dom g p S D) (hp : p = 0 ∨ p = 1) (hn : ∀ i, S i → i < n) (ho : ∀ i, S i → own g i = 0 ∨ own g i = 1) (i : Nat) (hi : D i) : won i = p := by
  obtain ⟨σ, a0⟩ := h.d0
  obtain ⟨τ, a1⟩ := h.d1
  obtain ⟨ρ, hD⟩ := hD
  have hs := hD.sub i hi
  rcases hp with rfl | rfl <;> rcases h.two i hs with e | e
  · exact e
  · exact (hD.disjoint a1 hn ho i hi ⟨hs, e⟩).elim
  · exact (a0.disjoint hD hn ho i ⟨hs, e⟩ hi).elim
  · exact e
end

section
variable {g : Gm} {p q : Int} {S R I D F T A W L : Nat → Prop} {σ τ : Nat → Nat} {won won' : Nat → Int}
/-- One player wins everywhere. -/
theorem Sol.all (hD : Dom g p S S) (hp : p = 0 ∨ p = 1) (hw : ∀ i, S i → won i = p) : Sol g S won := by
  refine Sol.of (fun i hi => by rw [hw i hi]; exact hp) fun q _ => ?_
  by_cases e : q = p
  · subst e
    exact hD.congr fun i => ⟨fun h => ⟨h, hw i h⟩, fun h => h.1⟩
  · exact (Dom.none g q S).congr fun i => ⟨fun x => x.elim, fun x => e (by rw [← x.2, hw i x.1])⟩
end

section
variable {g : Gm} {p q : Int} {S R I D F T A W L : Nat → Prop} {σ τ : Nat → Nat} {won won' : Nat → Int}
/-- A dominion that is all that its player attracts to it, and the winners of the game without it. -/
theorem Sol.step (hF : Dom g q S F) (hq : q = 0 ∨ q = 1) (out : ∀ i, S i → ¬ F i → own g i = q → ∀ j, Edge g i j → ¬ F j) (hR : Sol g (fun i => S i ∧ ¬ F i) won) (hw : ∀ i, F i → won i = q) (ho : ∀ i, S i → own g i = 0 ∨ own g i = 1) : Sol g S won := by
  have hFS : ∀ i, F i → S i := fun i hi => by obtain ⟨σ, h⟩ := hF; exact h.sub i hi
  refine Sol.of (fun i hi => ?_) fun p hp => ?_
  · by_cases h : F i
    · rw [hw i h]; exact hq
    · exact hR.two i ⟨hi, h⟩
  · obtain ⟨τ, hW⟩ := hR.dom hp
    by_cases e : p = q
    · subst e
      obtain ⟨σ, hF⟩ := hF
      refine (hF.union hW fun i => Iff.rfl).congr fun i => ⟨fun h => h.elim (fun h => ⟨hFS i h, hw i h⟩) fun h => ⟨h.1.1, h.2⟩, fun h => ?_⟩
      by_cases hf : F i
      · exact .inl hf
      · exact .inr ⟨⟨h.1, hf⟩, h.2⟩
    · refine Dom.congr ⟨τ, hW.lift (fun i hi => hi.1) fun i hi hne j he hj => ⟨hj, ?_⟩⟩ fun i => ⟨fun h => ⟨h.1.1, h.2⟩, fun h => ⟨⟨h.1, fun hf => e (by rw [← h.2, hw i hf])⟩, h.2⟩⟩
      have hoi := ho i hi.1
      exact out i hi.1 hi.2 (by omega) j he
end

section
variable {g : Gm} {p q : Int} {S R I D F T A W L : Nat → Prop} {σ τ : Nat → Nat} {won won' : Nat → Int}
/-- What T is attracted to is taken out; p wins all the rest, so it wins everywhere. -/
theorem dom_all (hA : AttIn g p S T A) (hp : p = 0 ∨ p = 1) (low : ∀ t, T t → ∀ v, S v → Lost p (pri g v) → pri g t < pri g v) (hS : Total g S) (hI : Sol g (fun i => S i ∧ ¬ A i) won) (hw : ∀ i, S i → ¬ A i → won i = p) : Dom g p S S := by
  obtain ⟨σ, hD⟩ := (hI.dom hp).congr (D' := fun i => S i ∧ ¬ A i) fun i => ⟨fun h => h.1, fun h => ⟨h, hw i h.1 h.2⟩⟩
  obtain ⟨ρ, hρ⟩ := hA.rank
  refine hD.all (T := T) ρ (fun i h => h.1) low hS (fun i hi hn ht ho => ?_) fun i hi hn ht ho j he hj => ?_
  · have ha : A i := Classical.not_not.1 fun h => hn ⟨hi, h⟩
    obtain ⟨j, h1, h2, h3⟩ := (hρ i ha ht).1 ho
    exact ⟨j, h1, hA.sub j h2, fun h => h.2 h2, h3⟩
  · have ha : A i := Classical.not_not.1 fun h => hn ⟨hi, h⟩
    obtain ⟨h1, h2⟩ := (hρ i ha ht).2 ho j he hj
    exact ⟨fun h => h.2 h1, h2⟩
end

section
variable {g : Gm} {p q : Int} {S R I D F T A W L : Nat → Prop} {σ τ : Nat → Nat} {won won' : Nat → Int}
/-- What T is attracted to is taken out; what the other player q wins of the rest, and attracts to it, it wins. -/
theorem dom_lost (hA : AttIn g p S T A) (hq : q = 0 ∨ q = 1) (hpq : p ≠ q) (hp : p = 0 ∨ p = 1) (hI : Sol g (fun i => S i ∧ ¬ A i) won) (hL : ∀ i, L i ↔ (S i ∧ ¬ A i) ∧ won i = q) (hF : AttIn g q S L F) (ho : ∀ i, S i → own g i = 0 ∨ own g i = 1) : Dom g q S F := by
  obtain ⟨σ, hD⟩ := hI.dom hq
  refine hF.dom (Dom.congr ⟨σ, hD.lift (fun i h => h.1) fun i hi hne j he hj => ⟨hj, ?_⟩⟩ fun i => (hL i).symm)
  have hoi := ho i hi.1
  exact hA.mine i hi.1 hi.2 (by omega) j he
end

/-- The queue, what is alive, and how many successors of each position are left. -/
structure Wk where
  q : List Int
  al : List Bool
  lf : List Int

def inS (s : List Bool) (x : Int) : Bool := s.getD x.toNat false

def wkStep (g : Gm) (p : Int) (st : Wk) (v : Int) : Wk :=
  if inS st.al v && (decide (g.owner.getD v.toNat 0 = p) || decide (st.lf.getD v.toNat 0 - 1 = 0)) then ⟨st.q ++ [v], st.al.set v.toNat false, st.lf.set v.toNat (st.lf.getD v.toNat 0 - 1)⟩ else ⟨st.q, st.al, st.lf.set v.toNat (st.lf.getD v.toNat 0 - 1)⟩

def wkAll (g : Gm) (p : Int) (st : Wk) (l : List Int) : Wk := l.foldl (wkStep g p) st

theorem wkStep_nat (g : Gm) (p : Int) (st : Wk) (v : Nat) : wkStep g p st (v : Int) = if (st.al.getD v false && (decide (g.owner.getD v 0 = p) || decide (st.lf.getD v 0 - 1 = 0))) = true then ⟨st.q ++ [(v : Int)], st.al.set v false, st.lf.set v (st.lf.getD v 0 - 1)⟩ else ⟨st.q, st.al, st.lf.set v (st.lf.getD v 0 - 1)⟩ := rfl

theorem wkAll_snoc (g : Gm) (p : Int) (st : Wk) (l : List Int) (v : Int) : wkAll g p st (l ++ [v]) = wkStep g p (wkAll g p st l) v := by simp [wkAll]

/-- The positions of which a position is a successor, with repetitions. -/
structure BfOK (g : Gm) (n : Nat) (bf : List (List Int)) : Prop where
  rg : ∀ u, ∀ x ∈ bf.getD u [], ∃ v : Nat, x = v ∧ v < n
  ct : ∀ u v, u < n → v < n → (bf.getD u []).count (v : Int) = (g.succ.getD v []).count (u : Int)

theorem mem_get {l : List Int} {x : Int} (h : x ∈ l) : ∃ j, j < l.length ∧ l.getD j 0 = x := by
  obtain ⟨j, hj, e⟩ := List.getElem_of_mem h
  exact ⟨j, hj, by rw [getD_lt _ _ _ hj]; exact e⟩

theorem get_mem {l : List Int} {j : Nat} (h : j < l.length) : l.getD j 0 ∈ l := by rw [getD_lt _ _ _ h]; exact List.getElem_mem h

theorem take_get {l : List Int} {a : Nat} {x : Int} (h : x ∈ l.take a) : ∃ j, j < a ∧ j < l.length ∧ l.getD j 0 = x := by
  obtain ⟨j, hj, e⟩ := mem_get h
  rw [List.length_take] at hj
  refine ⟨j, by omega, by omega, ?_⟩
  rw [← e]; simp [List.getD, show j < a by omega]

theorem nodup_get {l : List Int} (h : l.Nodup) {i j : Nat} (hi : i < l.length) (hj : j < l.length) (e : l.getD i 0 = l.getD j 0) : i = j := by
  rw [getD_lt _ _ _ hi, getD_lt _ _ _ hj] at e
  have hp := List.pairwise_iff_getElem.1 h
  rcases Nat.lt_trichotomy i j with hlt | heq | hgt
  · exact absurd e (hp i j hi hj hlt)
  · exact heq
  · exact absurd e.symm (hp j i hj hi hgt)

theorem count_snoc (r : List Int) (v x : Int) : (r ++ [v]).count x = r.count x + if v = x then 1 else 0 := by
  rw [List.count_append]
  by_cases h : v = x
  · subst h; simp
  · simp [h]

theorem countTwo {P : Int → Bool} {u x : Int} (hux : x ≠ u) (hu : P u = true) (hx : P x = true) (l : List Int) : l.count u + l.count x ≤ l.countP P := by
  induction l with
  | nil => simp
  | cons y l ih =>
    rw [List.count_cons, List.count_cons, List.countP_cons]
    by_cases h1 : y = u
    · subst h1
      have h2 : (y == x) = false := by simpa using fun e => hux e.symm
      simp only [h2, BEq.rfl, if_true, hu]
      simp; omega
    · by_cases h2 : y = x
      · subst h2
        have h3 : (y == u) = false := by simpa using h1
        simp only [h3, BEq.rfl, if_true, hx]
        simp; omega
      · have h3 : (y == u) = false := by simpa using h1
        have h4 : (y == x) = false := by simpa using h2
        simp only [h3, h4]
        simp; omega

theorem countOne {P : Int → Bool} {u : Int} (hu : P u = true) (l : List Int) : l.count u ≤ l.countP P := by
  rw [List.count]
  exact List.countP_mono_left fun x _ hx => by rw [beq_iff_eq] at hx; subst hx; exact hu

theorem countSplit {f : Int → Bool} (l P : List Int) (u : Int) (hf : f u = true) (hu : u ∉ P) : l.countP (fun x => f x && decide (x ∉ P)) = l.countP (fun x => f x && decide (x ∉ P ++ [u])) + l.count u := by
  induction l with
  | nil => simp
  | cons y l ih =>
    rw [List.countP_cons, List.countP_cons, List.count_cons, ih]
    by_cases h : y = u
    · subst h
      simp [hf, hu]; omega
    · simp [h]; omega

section
variable (g : Gm) (p : Int) (n : Nat) (s : List Bool) (t : List Int)
/-- Ahead of the place a the queue is done; r of the row at the place a is done. -/
structure WInv (a : Nat) (r : List Int) (st : Wk) : Prop where
  la : st.al.length = n
  ll : st.lf.length = n
  qr : ∀ x ∈ st.q, ∃ v : Nat, x = v ∧ v < n ∧ s.getD v false = true
  nd : st.q.Nodup
  al : ∀ v : Nat, v < n → st.al.getD v false = (s.getD v false && decide ((v : Int) ∉ st.q))
  lf : ∀ v : Nat, v < n → st.lf.getD v 0 + (r.count (v : Int) : Nat) = ((g.succ.getD v []).countP (fun x => inS s x && decide (x ∉ st.q.take a)) : Nat)
  tq : ∀ x ∈ t, x ∈ st.q
  rk : ∀ j, j < st.q.length → st.q.getD j 0 ∉ t → ((g.owner.getD (st.q.getD j 0).toNat 0 = p → ∃ i, i < j ∧ st.q.getD i 0 ∈ g.succ.getD (st.q.getD j 0).toNat []) ∧ (g.owner.getD (st.q.getD j 0).toNat 0 ≠ p → ∀ x ∈ g.succ.getD (st.q.getD j 0).toNat [], inS s x = true → ∃ i, i < j ∧ st.q.getD i 0 = x))
  mi : ∀ v : Nat, v < n → s.getD v false = true → (v : Int) ∉ st.q → g.owner.getD v 0 = p → (∀ x ∈ g.succ.getD v [], x ∉ st.q.take a) ∧ r.count (v : Int) = 0
  ot : ∀ v : Nat, v < n → s.getD v false = true → (v : Int) ∉ st.q → g.owner.getD v 0 ≠ p → 0 < st.lf.getD v 0
end

section
variable (g : Gm) (p : Int) (n : Nat) (s : List Bool) (t : List Int)
variable {g p n s t}
theorem getD_setI (l : List Int) (i j : Nat) (x : Int) (h : i < l.length) : (l.set i x).getD j 0 = if i = j then x else l.getD j 0 := by
  simp only [List.getD, List.getElem?_set]
  split <;> simp [*]
end

section
variable (g : Gm) (p : Int) (n : Nat) (s : List Bool) (t : List Int)
variable {g p n s t}
theorem getD_setB (l : List Bool) (i j : Nat) (x : Bool) (h : i < l.length) : (l.set i x).getD j false = if i = j then x else l.getD j false := by
  simp only [List.getD, List.getElem?_set]
  split <;> simp [*]
end

section
variable (g : Gm) (p : Int) (n : Nat) (s : List Bool) (t : List Int)
variable {g p n s t}
/-- One position of a row. -/
theorem WInv.step {a : Nat} {r : List Int} {st : Wk} {u v : Nat} (h : WInv g p n s t a r st) (ha : a < st.q.length) (hu : st.q.getD a 0 = u) (hv : v < n) (hc : (r ++ [(v : Int)]).count (v : Int) ≤ (g.succ.getD v []).count (u : Int)) :
    WInv g p n s t a (r ++ [(v : Int)]) (wkStep g p st v) := by
  have huq : (u : Int) ∈ st.q := by rw [← hu]; exact get_mem ha
  obtain ⟨u', e, hun, hus⟩ := h.qr _ huq
  obtain rfl : u = u' := by omega
  have hut : (u : Int) ∉ st.q.take a := fun hm => by
    obtain ⟨j, j1, j2, e⟩ := take_get hm
    have := nodup_get h.nd j2 ha (by rw [e, hu])
    omega
  have hPu : (inS s (u : Int) && decide ((u : Int) ∉ st.q.take a)) = true := by rw [show inS s (u : Int) = true from hus]; simp [hut]
  have hle := countOne (P := fun x => inS s x && decide (x ∉ st.q.take a)) hPu (g.succ.getD v [])
  have hlv := h.lf v hv
  have hcs : (r ++ [(v : Int)]).count (v : Int) = r.count (v : Int) + 1 := by rw [count_snoc]; simp
  have hpos : 0 ≤ st.lf.getD v 0 - 1 := by omega
  have husv : (u : Int) ∈ g.succ.getD v [] := by
    rw [← List.count_pos_iff]; omega
  have hlfn : ∀ w : Nat, w < n → (st.lf.set v (st.lf.getD v 0 - 1)).getD w 0 + (((r ++ [(v : Int)]).count (w : Int) : Nat) : Int) = ((g.succ.getD w []).countP (fun x => inS s x && decide (x ∉ st.q.take a)) : Nat) := fun w hw => by
    rw [getD_setI _ _ _ _ (by rw [h.ll]; exact hv), count_snoc]
    have := h.lf w hw
    by_cases e : v = w
    · subst e; simp only [if_true]; omega
    · rw [if_neg e, if_neg (by omega)]; omega
  rw [wkStep_nat]
  by_cases hcond : (st.al.getD v false && (decide (g.owner.getD v 0 = p) || decide (st.lf.getD v 0 - 1 = 0))) = true
  · rw [if_pos hcond]
    simp only [Bool.and_eq_true, Bool.or_eq_true, decide_eq_true_eq] at hcond
    obtain ⟨hal, hor⟩ := hcond
    rw [h.al v hv] at hal
    simp only [Bool.and_eq_true, decide_eq_true_eq] at hal
    obtain ⟨hsv, hvq⟩ := hal
    have htk : (st.q ++ [(v : Int)]).take a = st.q.take a := List.take_append_of_le_length (by omega)
    refine ⟨by simp [h.la], by simp [h.ll], fun x hx => ?_, ?_, fun w hw => ?_, fun w hw => ?_, fun x hx => List.mem_append.2 (.inl (h.tq x hx)), fun j hj hjt => ?_, fun w hw hws hwq ho => ?_, fun w hw hws hwq ho => ?_⟩
    · rcases List.mem_append.1 hx with hx | hx
      · exact h.qr x hx
      · obtain rfl := List.mem_singleton.1 hx
        exact ⟨v, rfl, hv, hsv⟩
    · rw [List.nodup_append]
      refine ⟨h.nd, by simp, fun x hx y hy => ?_⟩
      obtain rfl := List.mem_singleton.1 hy
      intro e; exact hvq (e ▸ hx)
    · rw [getD_setB _ _ _ _ (by rw [h.la]; exact hv), h.al w hw]
      by_cases e : v = w
      · subst e; simp
      · rw [if_neg e]
        have : (w : Int) ≠ v := by omega
        simp [this]
    · simp only [htk]; exact hlfn w hw
    · simp only at hj hjt ⊢
      rw [List.length_append, List.length_singleton] at hj
      have hold : ∀ i, i < st.q.length → (st.q ++ [(v : Int)]).getD i 0 = st.q.getD i 0 := fun i hi => by simp [List.getD, List.getElem?_append_left hi]
      by_cases hjl : j < st.q.length
      · rw [hold j hjl] at hjt ⊢
        obtain ⟨k1, k2⟩ := h.rk j hjl hjt
        refine ⟨fun ho => ?_, fun ho x hx hs => ?_⟩
        · obtain ⟨i, hi, e⟩ := k1 ho
          exact ⟨i, hi, by rw [hold i (by omega)]; exact e⟩
        · obtain ⟨i, hi, e⟩ := k2 ho x hx hs
          exact ⟨i, hi, by rw [hold i (by omega)]; exact e⟩
      · obtain rfl : j = st.q.length := by omega
        have e : (st.q ++ [(v : Int)]).getD st.q.length 0 = (v : Int) := by simp [List.getD]
        rw [e, Int.toNat_natCast]
        refine ⟨fun ho => ⟨a, ha, by rw [hold a ha, hu]; exact husv⟩, fun ho x hx hs => ?_⟩
        by_cases hxu : x = u
        · exact ⟨a, ha, by rw [hold a ha, hu, hxu]⟩
        · by_cases hxt : x ∈ st.q.take a
          · obtain ⟨i, i1, i2, e⟩ := take_get hxt
            exact ⟨i, i2, by rw [hold i i2]; exact e⟩
          · have hz : st.lf.getD v 0 - 1 = 0 := hor.resolve_left ho
            have hPx : (inS s x && decide (x ∉ st.q.take a)) = true := by rw [hs]; simp [hxt]
            have := countTwo (P := fun x => inS s x && decide (x ∉ st.q.take a)) hxu hPu hPx (g.succ.getD v [])
            have : 0 < (g.succ.getD v []).count x := List.count_pos_iff.2 hx
            omega
    · simp only [htk] at hwq ⊢
      have hwv : v ≠ w := fun e => hwq (by simp [e])
      have hwq' : (w : Int) ∉ st.q := fun e => hwq (List.mem_append.2 (.inl e))
      obtain ⟨k1, k2⟩ := h.mi w hw hws hwq' ho
      refine ⟨k1, ?_⟩
      rw [count_snoc, k2, if_neg (by omega)]
    · have hwv : v ≠ w := fun e => hwq (by simp [e])
      have hwq' : (w : Int) ∉ st.q := fun e => hwq (List.mem_append.2 (.inl e))
      simp only
      rw [getD_setI _ _ _ _ (by rw [h.ll]; exact hv), if_neg hwv]
      exact h.ot w hw hws hwq' ho
  · rw [if_neg hcond]
    refine ⟨h.la, by simp [h.ll], h.qr, h.nd, h.al, hlfn, h.tq, h.rk, fun w hw hws hwq ho => ?_, fun w hw hws hwq ho => ?_⟩
    · obtain ⟨k1, k2⟩ := h.mi w hw hws hwq ho
      refine ⟨k1, ?_⟩
      have hwv : v ≠ w := fun e => by
        subst e
        refine hcond ?_
        have := h.al v hv
        rw [hws] at this
        rw [this]; simp only [ho]; simp [hwq]
      rw [count_snoc, k2, if_neg (by omega)]
    · simp only
      rw [getD_setI _ _ _ _ (by rw [h.ll]; exact hv)]
      by_cases e : v = w
      · subst e
        rw [if_pos rfl]
        have hne : st.lf.getD v 0 - 1 ≠ 0 := fun e => by
          refine hcond ?_
          have := h.al v hv
          rw [hws] at this
          rw [this, e]; simp [hwq]
        omega
      · rw [if_neg e]; exact h.ot w hw hws hwq ho
end

section
variable (g : Gm) (p : Int) (n : Nat) (s : List Bool) (t : List Int)
variable {g p n s t}
theorem wkStep_q (g : Gm) (p : Int) (st : Wk) (v : Int) : ∃ e, (wkStep g p st v).q = st.q ++ e := by
  unfold wkStep
  split
  · exact ⟨[v], rfl⟩
  · exact ⟨[], by simp⟩
end

section
variable (g : Gm) (p : Int) (n : Nat) (s : List Bool) (t : List Int)
variable {g p n s t}
/-- A row. -/
theorem WInv.all {a : Nat} {st : Wk} {u : Nat} {row : List Int} (h : WInv g p n s t a [] st) (ha : a < st.q.length) (hu : st.q.getD a 0 = u) (hr : ∀ x ∈ row, ∃ v : Nat, x = v ∧ v < n) (hc : ∀ v : Nat, v < n → row.count (v : Int) = (g.succ.getD v []).count (u : Int)) (k : Nat) (hk : k ≤ row.length) :
    WInv g p n s t a (row.take k) (wkAll g p st (row.take k)) ∧ ∃ e, (wkAll g p st (row.take k)).q = st.q ++ e := by
  induction k with
  | zero => exact ⟨h, [], by simp [wkAll]⟩
  | succ k ih =>
    obtain ⟨i1, e, i2⟩ := ih (by omega)
    rw [List.take_succ_eq_append_getElem (by omega)]
    obtain ⟨v, hv, hvn⟩ := hr row[k] (List.getElem_mem _)
    have hcv := hc v hvn
    have hle : (row.take k ++ [row[k]]).count (v : Int) ≤ row.count (v : Int) := by
      rw [← List.take_succ_eq_append_getElem (by omega)]
      exact List.Sublist.count_le _ (List.take_sublist _ _)
    rw [hv] at hle ⊢
    rw [wkAll_snoc]
    have ha' : a < (wkAll g p st (row.take k)).q.length := by rw [i2, List.length_append]; omega
    have hu' : (wkAll g p st (row.take k)).q.getD a 0 = u := by rw [i2, ← hu]; simp [List.getD, List.getElem?_append_left ha]
    refine ⟨i1.step ha' hu' hvn (by omega), ?_⟩
    obtain ⟨e2, h2⟩ := wkStep_q g p (wkAll g p st (row.take k)) v
    exact ⟨e ++ e2, by rw [h2, i2, List.append_assoc]⟩
end

section
variable (g : Gm) (p : Int) (n : Nat) (s : List Bool) (t : List Int)
variable {g p n s t}
theorem WInv.next {a : Nat} {st : Wk} {u : Nat} {row : List Int} (h : WInv g p n s t a row st) (ha : a < st.q.length) (hu : st.q.getD a 0 = u) (hc : ∀ v : Nat, v < n → row.count (v : Int) = (g.succ.getD v []).count (u : Int)) : WInv g p n s t (a + 1) [] st := by
  have huq : (u : Int) ∈ st.q := by rw [← hu]; exact get_mem ha
  obtain ⟨u', e, hun, hus⟩ := h.qr _ huq
  obtain rfl : u = u' := by omega
  have hut : (u : Int) ∉ st.q.take a := fun hm => by
    obtain ⟨j, j1, j2, e⟩ := take_get hm
    have := nodup_get h.nd j2 ha (by rw [e, hu])
    omega
  have htk : st.q.take (a + 1) = st.q.take a ++ [(u : Int)] := by
    rw [List.take_succ_eq_append_getElem ha, ← hu, getD_lt _ _ _ ha]
  refine ⟨h.la, h.ll, h.qr, h.nd, h.al, fun v hv => ?_, h.tq, h.rk, fun v hv hs hq ho => ?_, h.ot⟩
  · have h1 := h.lf v hv
    rw [countSplit (f := inS s) _ _ (u : Int) hus hut, hc v hv] at h1
    rw [htk]
    simp only [List.count_nil]
    omega
  · obtain ⟨k1, k2⟩ := h.mi v hv hs hq ho
    refine ⟨fun x hx => ?_, by simp⟩
    rw [htk]
    intro hm
    rcases List.mem_append.1 hm with hm | hm
    · exact k1 x hx hm
    · obtain rfl := List.mem_singleton.1 hm
      rw [hc v hv] at k2
      have := List.count_pos_iff.2 hx
      omega
end

section
variable (g : Gm) (p : Int) (n : Nat) (s : List Bool) (t : List Int)
variable {g p n s t}
/-- The beginning. -/
theorem WInv.start {al : List Bool} {lf : List Int} (hla : al.length = n) (hll : lf.length = n) (hs : ∀ v, v < n → al.getD v false = (s.getD v false && decide ((v : Int) ∉ t))) (ht : ∀ x ∈ t, ∃ v : Nat, x = v ∧ v < n ∧ s.getD v false = true) (hnd : t.Nodup)
    (hl : ∀ v, v < n → lf.getD v 0 = ((g.succ.getD v []).countP (inS s) : Nat)) (htot : ∀ v, v < n → s.getD v false = true → ∃ x ∈ g.succ.getD v [], inS s x = true) : WInv g p n s t 0 [] ⟨t, al, lf⟩ := by
  refine ⟨hla, hll, ht, hnd, hs, fun v hv => ?_, fun x hx => hx, fun j hj hjt => absurd (get_mem hj) hjt, fun v hv _ _ _ => ⟨fun x hx => by simp, by simp⟩, fun v hv hsv hq ho => ?_⟩
  · have e : (fun x => inS s x && decide (x ∉ t.take 0)) = inS s := by funext x; simp
    simp only
    rw [e, hl v hv]; simp
  · simp only
    rw [hl v hv]
    obtain ⟨x, hx, h⟩ := htot v hv hsv
    have : 0 < (g.succ.getD v []).countP (inS s) := List.countP_pos_iff.2 ⟨x, hx, h⟩
    omega
end

section
variable (g : Gm) (p : Int) (n : Nat) (s : List Bool) (t : List Int)
variable {g p n s t}
open Classical in
/-- The end. -/
theorem WInv.att {a : Nat} {st : Wk} (h : WInv g p n s t a [] st) (ha : st.q.length ≤ a) (hg : ∀ i, i < n → ∀ x ∈ g.succ.getD i [], ∃ v : Nat, x = v ∧ v < n) (hsn : s.length = n) :
    AttIn g p (fun i => s.getD i false = true) (fun i => (i : Int) ∈ t) (fun i => (i : Int) ∈ st.q) := by
  have hlt : ∀ i, s.getD i false = true → i < n := fun i hi => by
    rcases Nat.lt_or_ge i n with h | h
    · exact h
    · simp [List.getD, List.getElem?_eq_none (by omega : s.length ≤ i)] at hi
  have hq : ∀ i : Nat, (i : Int) ∈ st.q → i < n ∧ s.getD i false = true := fun i hi => by
    obtain ⟨v, e, h1, h2⟩ := h.qr _ hi
    obtain rfl : i = v := by omega
    exact ⟨h1, h2⟩
  have htk : st.q.take a = st.q := List.take_of_length_le ha
  obtain ⟨ρ, rho⟩ : ∃ ρ : Nat → Nat, ∀ j, j < st.q.length → ∀ i : Nat, st.q.getD j 0 = (i : Int) → ρ i = j := by
    refine ⟨fun i => if hx : ∃ j, j < st.q.length ∧ st.q.getD j 0 = (i : Int) then Classical.choose hx else 0, fun j hj i e => ?_⟩
    have hx : ∃ j, j < st.q.length ∧ st.q.getD j 0 = (i : Int) := ⟨j, hj, e⟩
    simp only
    rw [dif_pos hx]
    obtain ⟨h1, h2⟩ := Classical.choose_spec hx
    exact nodup_get h.nd h1 hj (by rw [h2, e])
  refine ⟨fun i hi => (hq i hi).2, fun i hi => h.tq _ hi, ⟨ρ, fun i hi hit => ?_⟩, fun i hi hn ho j he => ?_, fun i hi hn ho => ?_⟩
  · obtain ⟨j, hj, e⟩ := mem_get hi
    obtain ⟨k1, k2⟩ := h.rk j hj (by rw [e]; exact hit)
    rw [e, Int.toNat_natCast] at k1 k2
    refine ⟨fun ho => ?_, fun ho x he hx => ?_⟩
    · obtain ⟨m, hm, hme⟩ := k1 ho
      obtain ⟨v, ev, hv⟩ := hg i (hq i hi).1 _ hme
      refine ⟨v, by unfold Edge; rw [← ev]; exact hme, by rw [← ev]; exact get_mem (by omega), .inr ?_⟩
      rw [rho j hj i e, rho m (by omega) v ev]
      exact hm
    · obtain ⟨m, hm, hme⟩ := k2 ho x he hx
      refine ⟨by rw [← hme]; exact get_mem (by omega), .inr ?_⟩
      rw [rho j hj i e, rho m (by omega) x hme]
      exact hm
  · have := (h.mi i (hlt i hi) hi hn ho).1 j he
    rwa [htk] at this
  · have h1 := h.ot i (hlt i hi) hi hn ho
    have h2 := h.lf i (hlt i hi)
    simp only [List.count_nil, htk] at h2
    have : 0 < (g.succ.getD i []).countP (fun x => inS s x && decide (x ∉ st.q)) := by omega
    obtain ⟨x, hx, hp⟩ := List.countP_pos_iff.1 this
    simp only [Bool.and_eq_true, decide_eq_true_eq] at hp
    obtain ⟨v, e, hv⟩ := hg i (hlt i hi) x hx
    subst e
    exact ⟨v, hx, hp.1, hp.2⟩
end

/-- 'append' of a position to a set of the call's own. -/
theorem app_pos {ops : Array Oper} {rest : List Oper} {o : Oper} {a : Act} {Q : Exit → Act → World → Prop} {w : World} (hgd : o.guard = none) (s x : Operand) (b : Int)
    (ho : o.op = .call { callee := .builtin .append, args := #[s, x], argTypes := #[69, 69] })
    (base : Nat) (v : Value) (l : List Int) (hown : OI w base v l) (hs : a.eval s = v) (m : Nat) (hm : m = w.heap.size) (hx : a.eval x = .slice (some ⟨m, 0, none⟩) 1 1)
    (hn : l.length < 17592186043904) (hbase : base ≤ w.heap.size)
    (h : ∀ v' w', OI w' base v' (l ++ [b]) → w.grownBy w' v.ownBlock → Moved w v v' → wpList Try.prog ops Q rest (a.put o.dst v') w') :
    wpList Try.prog ops Q (o :: rest) a (w.alloc (.cells #[.int .i64 b] 3)) := by
  refine wpList_app1 hgd s x _ _ 8 _ _ ho Try.underlying69 info_int rfl base v l.length _ hs hown m hm hx rfl (by omega) (by decide) hbase fun v' w' h1 h2 h3 => h v' w' ?_ h2 h3
  unfold OI
  simpa using h1

/-- 'append' of a list to a set of the call's own. -/
theorem app_set {ops : Array Oper} {rest : List Oper} {o : Oper} {a : Act} {Q : Exit → Act → World → Prop} {w : World} (hgd : o.guard = none) (s x : Operand)
    (ho : o.op = .call { callee := .builtin .append, args := #[s, x], argTypes := #[69, 69] })
    (base : Nat) (v v2 : Value) (l l2 : List Int) (hown : OI w base v l) (hs : a.eval s = v) (hsrc : IsInts w v2 l2) (hx : a.eval x = v2)
    (hn : l.length + l2.length ≤ 17592186043904) (hbase : base ≤ w.heap.size)
    (h : ∀ v' w', OI w' base v' (l ++ l2) → w.grownBy w' v.ownBlock → Moved w v v' → wpList Try.prog ops Q rest (a.put o.dst v') w') :
    wpList Try.prog ops Q (o :: rest) a w := by
  obtain ⟨⟨ao, cap, b, off, rfl, hsrc⟩, -⟩ := hsrc
  refine wpList_appA hgd s x _ _ 8 _ ho Try.underlying69 info_int rfl base v l.length _ hs hown ao cap b off l2.length (ivF l2) hx hsrc (fun _ => rfl) (by omega) (by decide) hbase fun v' w' h1 h2 h3 => h v' w' ?_ h2 h3
  have e : (List.range l2.length).map (ivF l2) = l2.map (Value.int .i64) := by
    apply List.ext_getElem (by simp)
    intro j h1 h2
    have : j < l2.length := by simpa using h1
    simp [ivF, this]
  rw [e] at h1
  unfold OI
  simpa using h1

/-! The memory. -/

/-- Where a solver lies: its box, its lists alive, left and won, and its other fields. -/
structure Ad where
  sp : Nat
  ba : Nat
  bl : Nat
  bw : Nat
  v0 : Value
  v1 : Value
  v2 : Value
  vb : Value
  V : Nat → Value

/-- The blocks that are written. -/
def Ad.hot (D : Ad) (k : Nat) : Prop := k = D.ba ∨ k = D.bl ∨ k = D.bw

/-- What stays. -/
structure Fx (W : World) (D : Ad) (g : Gm) (n : Nat) (bf : List (List Int)) : Prop where
  box : W.heap[D.sp]? = some (.cells #[D.v0, D.v1, D.v2, D.vb, .slice (some ⟨D.ba, 0, none⟩) n n, .slice (some ⟨D.bl, 0, none⟩) n n, .slice (some ⟨D.bw, 0, none⟩) n n] 74 (0, 0))
  ow : IsInts W D.v0 g.owner
  pr : IsInts W D.v1 g.prio
  be : IsArr W D.vb n D.V
  br : ∀ j, j < n → IsInts W (D.V j) (bf.getD j [])

/-- A solver; what stays lies below B. -/
structure Sv (B : Nat) (w : World) (D : Ad) (g : Gm) (n : Nat) (bf : List (List Int)) (al : List Bool) (lf wn : List Int) : Prop where
  fx : ∀ W, Only (fun k => D.hot k ∨ B ≤ k) w W → Fx W D g n bf
  a : OB w 0 (.slice (some ⟨D.ba, 0, none⟩) n n) al
  l : OI w 0 (.slice (some ⟨D.bl, 0, none⟩) n n) lf
  w : OI w 0 (.slice (some ⟨D.bw, 0, none⟩) n n) wn
  la : al.length = n
  ll : lf.length = n
  lw : wn.length = n
  ne : D.ba ≠ D.bl ∧ D.ba ≠ D.bw ∧ D.bl ≠ D.bw
  hb : D.ba < B ∧ D.bl < B ∧ D.bw < B

/-- A list that stays: it lies below B, in no block that is written. -/
def Kp (B : Nat) (w : World) (D : Ad) (v : Value) (l : List Int) : Prop := ∀ W, Only (fun k => D.hot k ∨ B ≤ k) w W → IsInts W v l

section
variable {w W : World} {B B' : Nat} {D : Ad} {g : Gm} {n : Nat} {bf : List (List Int)} {al : List Bool} {lf wn : List Int} {v : Value} {l : List Int}
theorem Only.orB {S : Nat → Prop} (h : Only S w W) : Only (fun k => S k ∨ B ≤ k) w W := h.mono fun _ _ => .inl
end

section
variable {w W : World} {B B' : Nat} {D : Ad} {g : Gm} {n : Nat} {bf : List (List Int)} {al : List Bool} {lf wn : List Int} {v : Value} {l : List Int}
theorem Kp.only (h : Kp B w D v l) (ho : Only (fun k => D.hot k ∨ B ≤ k) w W) : Kp B W D v l := fun W' h' => h W' (ho.trans h')
end

section
variable {w W : World} {B B' : Nat} {D : Ad} {g : Gm} {n : Nat} {bf : List (List Int)} {al : List Bool} {lf wn : List Int} {v : Value} {l : List Int}
theorem Kp.is (h : Kp B w D v l) : IsInts w v l := h w (Only.refl _ _)
end

section
variable {w W : World} {B B' : Nat} {D : Ad} {g : Gm} {n : Nat} {bf : List (List Int)} {al : List Bool} {lf wn : List Int} {v : Value} {l : List Int}
theorem Kp.up (h : Kp B w D v l) (hB : B ≤ B') : Kp B' w D v l := fun W' h' => h W' (h'.mono fun _ _ hk => hk.imp_right fun h => Nat.le_trans hB h)
end

section
variable {w W : World} {B B' : Nat} {D : Ad} {g : Gm} {n : Nat} {bf : List (List Int)} {al : List Bool} {lf wn : List Int} {v : Value} {l : List Int}
theorem Sv.hot_lt (h : Sv B w D g n bf al lf wn) : ∀ k, D.hot k → k < B := by
  obtain ⟨h1, h2, h3⟩ := h.hb
  rintro k (rfl | rfl | rfl) <;> assumption
end

section
variable {w W : World} {B B' : Nat} {D : Ad} {g : Gm} {n : Nat} {bf : List (List Int)} {al : List Bool} {lf wn : List Int} {v : Value} {l : List Int}
/-- Rows of the call's own stay. -/
theorem OI.kp {b : Nat} (h : OI w b v l) (hD : ∀ k, D.hot k → k < b) (hB : w.heap.size ≤ B) (hn : l.length ≤ maxN) (hi : ∀ x ∈ l, I64 x) : Kp B w D v l := fun W hW =>
  (h.only hW fun k hk hh => by
    have h1 := h.ge k hk
    have h2 := h.lt' k hk
    rcases hh with hh | hh
    · have := hD k hh; omega
    · omega).is hn hi
end

section
variable {w W : World} {B B' : Nat} {D : Ad} {g : Gm} {n : Nat} {bf : List (List Int)} {al : List Bool} {lf wn : List Int} {v : Value} {l : List Int}
theorem Sv.up (h : Sv B w D g n bf al lf wn) (hB : B ≤ B') : Sv B' w D g n bf al lf wn :=
  { h with
    fx := fun W' h' => h.fx W' (h'.mono fun _ _ hk => hk.imp_right fun h => Nat.le_trans hB h)
    hb := by have := h.hb; omega }
end

section
variable {w W : World} {B B' : Nat} {D : Ad} {g : Gm} {n : Nat} {bf : List (List Int)} {al : List Bool} {lf wn : List Int} {v : Value} {l : List Int}
/-- Behind writes to the lists. -/
theorem Sv.after {al' : List Bool} {lf' wn' : List Int} (h : Sv B w D g n bf al lf wn) (ho : Only (fun k => D.hot k ∨ B ≤ k) w W) (ha : OB W 0 (.slice (some ⟨D.ba, 0, none⟩) n n) al') (hl : OI W 0 (.slice (some ⟨D.bl, 0, none⟩) n n) lf') (hw : OI W 0 (.slice (some ⟨D.bw, 0, none⟩) n n) wn')
    (ka : al'.length = n) (kl : lf'.length = n) (kw : wn'.length = n) : Sv B W D g n bf al' lf' wn' :=
  ⟨fun W' h' => h.fx W' (ho.trans h'), ha, hl, hw, ka, kl, kw, h.ne, h.hb⟩
end

section
variable {w W : World} {B B' : Nat} {D : Ad} {g : Gm} {n : Nat} {bf : List (List Int)} {al : List Bool} {lf wn : List Int} {v : Value} {l : List Int}
/-- Behind writes above B. -/
theorem Sv.above (h : Sv B w D g n bf al lf wn) (ho : Only (fun k => B ≤ k) w W) : Sv B W D g n bf al lf wn := by
  have hb := h.hb
  exact h.after (ho.mono fun _ _ hk => .inr hk) (OB.only h.a ho fun k hk e => by simp [Value.ownBlock] at hk; omega) (OI.only h.l ho fun k hk e => by simp [Value.ownBlock] at hk; omega) (OI.only h.w ho fun k hk e => by simp [Value.ownBlock] at hk; omega) h.la h.ll h.lw
end

section
variable {w W : World} {B B' : Nat} {D : Ad} {g : Gm} {n : Nat} {bf : List (List Int)} {al : List Bool} {lf wn : List Int} {v : Value} {l : List Int}
theorem Sv.below (h : Sv B w D g n bf al lf wn) (hb : Below w.heap.size w W) : Sv B W D g n bf al lf wn := h.above (Only.of_below hb)
end

section
variable {w W : World} {B B' : Nat} {D : Ad} {g : Gm} {n : Nat} {bf : List (List Int)} {al : List Bool} {lf wn : List Int} {v : Value} {l : List Int}
theorem Sv.toA {al' : List Bool} (h : Sv B w D g n bf al lf wn) (ho : Only (fun k => k = D.ba) w W) (ha : OB W 0 (.slice (some ⟨D.ba, 0, none⟩) n n) al') (hl : al'.length = n) : Sv B W D g n bf al' lf wn :=
  h.after (ho.mono fun _ _ e => .inl (.inl e)) ha (OI.only h.l ho (fun k hk e => by have := h.ne; simp [Value.ownBlock] at hk; omega)) (OI.only h.w ho (fun k hk e => by have := h.ne; simp [Value.ownBlock] at hk; omega)) hl h.ll h.lw
end

section
variable {w W : World} {B B' : Nat} {D : Ad} {g : Gm} {n : Nat} {bf : List (List Int)} {al : List Bool} {lf wn : List Int} {v : Value} {l : List Int}
theorem Sv.toL {lf' : List Int} (h : Sv B w D g n bf al lf wn) (ho : Only (fun k => k = D.bl) w W) (ha : OI W 0 (.slice (some ⟨D.bl, 0, none⟩) n n) lf') (hl : lf'.length = n) : Sv B W D g n bf al lf' wn :=
  h.after (ho.mono fun _ _ e => .inl (.inr (.inl e))) (OB.only h.a ho (fun k hk e => by have := h.ne; simp [Value.ownBlock] at hk; omega)) ha (OI.only h.w ho (fun k hk e => by have := h.ne; simp [Value.ownBlock] at hk; omega)) h.la hl h.lw
end

section
variable {w W : World} {B B' : Nat} {D : Ad} {g : Gm} {n : Nat} {bf : List (List Int)} {al : List Bool} {lf wn : List Int} {v : Value} {l : List Int}
theorem Sv.toW {wn' : List Int} (h : Sv B w D g n bf al lf wn) (ho : Only (fun k => k = D.bw) w W) (ha : OI W 0 (.slice (some ⟨D.bw, 0, none⟩) n n) wn') (hl : wn'.length = n) : Sv B W D g n bf al lf wn' :=
  h.after (ho.mono fun _ _ e => .inl (.inr (.inr e))) (OB.only h.a ho (fun k hk e => by have := h.ne; simp [Value.ownBlock] at hk; omega)) (OI.only h.l ho (fun k hk e => by have := h.ne; simp [Value.ownBlock] at hk; omega)) ha h.la h.ll hl
end

section
variable {w W : World} {B B' : Nat} {D : Ad} {g : Gm} {n : Nat} {bf : List (List Int)} {al : List Bool} {lf wn : List Int} {v : Value} {l : List Int}
/-- Memory made since does not count. -/
theorem Only.grow {S : Nat → Prop} {w w1 w2 : World} {r : Option Nat} (h : Only S w w1) (hg : w1.grownBy w2 r) (hr : ∀ k, r = some k → w.heap.size ≤ k) : Only S w w2 :=
  ⟨hg.os.trans h.os, hg.tape.trans h.tape, hg.output.trans h.output, Nat.le_trans h.size hg.size, fun k hk hs => (hg.block k (Nat.lt_of_lt_of_le hk h.size) (fun e => by have := hr k e.symm; omega)).trans (h.block k hk hs)⟩
end

section
variable {w W : World} {B B' : Nat} {D : Ad} {g : Gm} {n : Nat} {bf : List (List Int)} {al : List Bool} {lf wn : List Int} {v : Value} {l : List Int}
theorem Only.one {k0 : Nat} (h : Only (fun k => k = k0) w W) (hk : D.hot k0) : Only D.hot w W := h.mono fun _ _ e => e ▸ hk
end

section
variable {w W : World} {B B' : Nat} {D : Ad} {g : Gm} {n : Nat} {bf : List (List Int)} {al : List Bool} {lf wn : List Int} {v : Value} {l : List Int}
theorem Sv.cellA (h : Sv B w D g n bf al lf wn) {v : Nat} (hv : v < n) : w.cell? ⟨D.ba, v, none⟩ = some (.bool (al.getD v false)) ∧ w.frozen? ⟨D.ba, v, none⟩ = false := by
  have := h.la
  refine ⟨?_, h.a.fz h.la.symm v⟩
  rw [h.a.at' h.la.symm v (by omega), getD_lt _ _ _ (by omega)]
end

section
variable {w W : World} {B B' : Nat} {D : Ad} {g : Gm} {n : Nat} {bf : List (List Int)} {al : List Bool} {lf wn : List Int} {v : Value} {l : List Int}
theorem Sv.cellL (h : Sv B w D g n bf al lf wn) {v : Nat} (hv : v < n) : w.cell? ⟨D.bl, v, none⟩ = some (.int .i64 (lf.getD v 0)) ∧ w.frozen? ⟨D.bl, v, none⟩ = false := by
  have := h.ll
  refine ⟨?_, h.l.fz h.ll.symm v⟩
  rw [h.l.at' h.ll.symm v (by omega), getD_lt _ _ _ (by omega)]
end

section
variable {w W : World} {B B' : Nat} {D : Ad} {g : Gm} {n : Nat} {bf : List (List Int)} {al : List Bool} {lf wn : List Int} {v : Value} {l : List Int}
theorem Sv.cellW (h : Sv B w D g n bf al lf wn) {v : Nat} (hv : v < n) : w.cell? ⟨D.bw, v, none⟩ = some (.int .i64 (wn.getD v 0)) ∧ w.frozen? ⟨D.bw, v, none⟩ = false := by
  have := h.lw
  refine ⟨?_, h.w.fz h.lw.symm v⟩
  rw [h.w.at' h.lw.symm v (by omega), getD_lt _ _ _ (by omega)]
end

section
variable {w W : World} {B B' : Nat} {D : Ad} {g : Gm} {n : Nat} {bf : List (List Int)} {al : List Bool} {lf wn : List Int} {v : Value} {l : List Int}
theorem Sv.setA (h : Sv B w D g n bf al lf wn) (v : Nat) (b : Bool) : Sv B (w.setCell ⟨D.ba, v, none⟩ (.bool b)) D g n bf (al.set v b) lf wn :=
  h.toA (Only.set _ _ _ rfl) (h.a.set h.la.symm v b) (by rw [List.length_set]; exact h.la)
end

section
variable {w W : World} {B B' : Nat} {D : Ad} {g : Gm} {n : Nat} {bf : List (List Int)} {al : List Bool} {lf wn : List Int} {v : Value} {l : List Int}
theorem Sv.setL (h : Sv B w D g n bf al lf wn) (v : Nat) (b : Int) : Sv B (w.setCell ⟨D.bl, v, none⟩ (.int .i64 b)) D g n bf al (lf.set v b) wn :=
  h.toL (Only.set _ _ _ rfl) (h.l.set h.ll.symm v b) (by rw [List.length_set]; exact h.ll)
end

section
variable {w W : World} {B B' : Nat} {D : Ad} {g : Gm} {n : Nat} {bf : List (List Int)} {al : List Bool} {lf wn : List Int} {v : Value} {l : List Int}
/-- The box's fields. -/
theorem Sv.field (h : Sv B w D g n bf al lf wn) (k : Nat) {u : Value} (hu : (#[D.v0, D.v1, D.v2, D.vb, .slice (some ⟨D.ba, 0, none⟩) n n, .slice (some ⟨D.bl, 0, none⟩) n n, .slice (some ⟨D.bw, 0, none⟩) n n] : Array Value)[k]? = some u) : w.cell? ⟨D.sp, k, none⟩ = some u :=
  (cell_of_row _ _ k _ _ _ (h.fx w (Only.refl _ _)).box).trans hu
end

/-! lift. -/

def liftB (l : List Bool) (part : List Int) (b : Bool) : List Bool := part.foldl (fun a v => a.set v.toNat b) l

def liftI (l : List Int) (part : List Int) (x : Int) : List Int := part.foldl (fun a v => a.set v.toNat x) l

theorem liftB_snoc (l : List Bool) (p : List Int) (v : Int) (b : Bool) : liftB l (p ++ [v]) b = (liftB l p b).set v.toNat b := by simp [liftB]

theorem liftI_snoc (l : List Int) (p : List Int) (v : Int) (x : Int) : liftI l (p ++ [v]) x = (liftI l p x).set v.toNat x := by simp [liftI]

theorem liftB_len (l : List Bool) (p : List Int) (b : Bool) : (liftB l p b).length = l.length := by
  induction p generalizing l with
  | nil => rfl
  | cons v p ih => show (liftB (l.set v.toNat b) p b).length = _; rw [ih, List.length_set]

theorem liftI_len (l : List Int) (p : List Int) (x : Int) : (liftI l p x).length = l.length := by
  induction p generalizing l with
  | nil => rfl
  | cons v p ih => show (liftI (l.set v.toNat x) p x).length = _; rw [ih, List.length_set]

set_option maxHeartbeats 1000000 in
theorem liftB_c (w : World) (gi n : Nat) (vp : Value) (al : List Bool) (part : List Int) (b : Bool) (ha : OB w 0 (.slice (some ⟨gi, 0, none⟩) n n) al) (hl : al.length = n) (hp : ∀ W, Only (fun k => k = gi) w W → IsInts W vp part) (hr : ∀ x ∈ part, ∃ v : Nat, x = v ∧ v < n) :
    Calls Try.prog 74 #[.slice (some ⟨gi, 0, none⟩) n n, vp, .bool b] w fun e w' => e = .returned (.tuple #[]) ∧ OB w' 0 (.slice (some ⟨gi, 0, none⟩) n n) (liftB al part b) ∧ Only (fun k => k = gi) w w' := by
  have h0 := hp w (Only.refl _ _)
  obtain ⟨⟨ao, cap, bp, op, rfl, g0⟩, -⟩ := h0
  have hn := g0.nb
  have HP := Lib.hid (fun W h => hp W h)
  have HA := Lib.hid ha
  have HR := Lib.hid (fun k (hk : k < part.length) => hr part[k] (List.getElem_mem hk))
  have HAd := Lib.hid g0.ad
  have HL := Lib.hid hl
  clear g0 ha hr hl hp
  go_enter Try.func74, Try.ntmps74
  go_wp2
  go_loopg [7, 10] part.length (fun gh _ i wr => ∃ k : Nat, gh = part.length - k ∧ i = .int .i64 k ∧ k ≤ part.length ∧ Hid (OB wr 0 (.slice (some ⟨gi, 0, none⟩) n n) (liftB al (part.take k) b)) ∧ Hid (Only (fun k => k = gi) w wr))
  case atStart => exact ⟨0, by omega, rfl, by omega, HA, Only.refl _ _⟩
  case round =>
    obtain ⟨k, rfl, rfl, hk, HO, HW⟩ := hrel
    by_cases hlt : k < part.length
    · obtain ⟨⟨ao', cap', bp', op', hv, g1⟩, -⟩ := HP.out wr HW.out
      obtain ⟨rfl, rfl⟩ : ao = ao' ∧ cap = cap' := by simpa using hv
      obtain rfl := g1.ad (by omega)
      have e1 := g1.el k hlt
      unfold ivF at e1
      rw [getD_lt _ _ _ hlt] at e1
      obtain ⟨v, hv, hvn⟩ := HR.out k hlt
      have HLen : Hid ((liftB al (part.take k) b).length = n) := by show _ = _; rw [liftB_len, HL.out]
      have e2 := HO.out.at' HLen.out.symm v (by rw [HLen.out]; exact hvn)
      have f2 := HO.out.fz HLen.out.symm v
      have HO2 : Hid (OB (wr.setCell ⟨gi, v, none⟩ (.bool b)) 0 (.slice (some ⟨gi, 0, none⟩) n n) (liftB al (part.take (k + 1)) b)) := by
        show OB _ _ _ _
        rw [List.take_succ_eq_append_getElem hlt, liftB_snoc, hv, Int.toNat_natCast]
        exact HO.out.set HLen.out.symm v b
      have HW2 : Hid (Only (fun k => k = gi) w (wr.setCell ⟨gi, v, none⟩ (.bool b))) := HW.out.trans (Only.set _ _ _ rfl)
      rw [hv] at e1
      clear hv g1
      go_wp2
      go_roundg (part.length - (k + 1))
      case rel => exact ⟨k + 1, rfl, by go_num, by omega, HO2, HW2⟩
      case measure => omega
    · obtain rfl : k = part.length := by omega
      go_wp2
      go_end0
      exact ⟨rfl, by have := HO.out; rwa [List.take_length] at this, HW.out⟩

set_option maxHeartbeats 1000000 in
theorem liftI_c (w : World) (gi n : Nat) (vp : Value) (al : List Int) (part : List Int) (b : Int) (ha : OI w 0 (.slice (some ⟨gi, 0, none⟩) n n) al) (hl : al.length = n) (hp : ∀ W, Only (fun k => k = gi) w W → IsInts W vp part) (hr : ∀ x ∈ part, ∃ v : Nat, x = v ∧ v < n) :
    Calls Try.prog 68 #[.slice (some ⟨gi, 0, none⟩) n n, vp, .int .i64 b] w fun e w' => e = .returned (.tuple #[]) ∧ OI w' 0 (.slice (some ⟨gi, 0, none⟩) n n) (liftI al part b) ∧ Only (fun k => k = gi) w w' := by
  have h0 := hp w (Only.refl _ _)
  obtain ⟨⟨ao, cap, bp, op, rfl, g0⟩, -⟩ := h0
  have hn := g0.nb
  have HP := Lib.hid (fun W h => hp W h)
  have HA := Lib.hid ha
  have HR := Lib.hid (fun k (hk : k < part.length) => hr part[k] (List.getElem_mem hk))
  have HAd := Lib.hid g0.ad
  have HL := Lib.hid hl
  clear g0 ha hr hl hp
  go_enter Try.func68, Try.ntmps68
  go_wp2
  go_loopg [7, 10] part.length (fun gh _ i wr => ∃ k : Nat, gh = part.length - k ∧ i = .int .i64 k ∧ k ≤ part.length ∧ Hid (OI wr 0 (.slice (some ⟨gi, 0, none⟩) n n) (liftI al (part.take k) b)) ∧ Hid (Only (fun k => k = gi) w wr))
  case atStart => exact ⟨0, by omega, rfl, by omega, HA, Only.refl _ _⟩
  case round =>
    obtain ⟨k, rfl, rfl, hk, HO, HW⟩ := hrel
    by_cases hlt : k < part.length
    · obtain ⟨⟨ao', cap', bp', op', hv, g1⟩, -⟩ := HP.out wr HW.out
      obtain ⟨rfl, rfl⟩ : ao = ao' ∧ cap = cap' := by simpa using hv
      obtain rfl := g1.ad (by omega)
      have e1 := g1.el k hlt
      unfold ivF at e1
      rw [getD_lt _ _ _ hlt] at e1
      obtain ⟨v, hv, hvn⟩ := HR.out k hlt
      have HLen : Hid ((liftI al (part.take k) b).length = n) := by show _ = _; rw [liftI_len, HL.out]
      have e2 := HO.out.at' HLen.out.symm v (by rw [HLen.out]; exact hvn)
      have f2 := HO.out.fz HLen.out.symm v
      have HO2 : Hid (OI (wr.setCell ⟨gi, v, none⟩ (.int .i64 b)) 0 (.slice (some ⟨gi, 0, none⟩) n n) (liftI al (part.take (k + 1)) b)) := by
        show OI _ _ _ _
        rw [List.take_succ_eq_append_getElem hlt, liftI_snoc, hv, Int.toNat_natCast]
        exact HO.out.set HLen.out.symm v b
      have HW2 : Hid (Only (fun k => k = gi) w (wr.setCell ⟨gi, v, none⟩ (.int .i64 b))) := HW.out.trans (Only.set _ _ _ rfl)
      rw [hv] at e1
      clear hv g1
      go_wp2
      go_roundg (part.length - (k + 1))
      case rel => exact ⟨k + 1, rfl, by go_num, by omega, HO2, HW2⟩
      case measure => omega
    · obtain rfl : k = part.length := by omega
      go_wp2
      go_end0
      exact ⟨rfl, by have := HO.out; rwa [List.take_length] at this, HW.out⟩

/-! keep. -/

/-- A set made for the call. -/
def NewSet (l : List Int) (w : World) (e : Ending) (w' : World) : Prop := ∃ v, e = .returned v ∧ OI w' w.heap.size v l ∧ Below w.heap.size w w'

set_option maxHeartbeats 1000000 in
theorem keep_c (w : World) (vp : Value) (part : List Int) (fn : Nat) (lb : Array Value) (f : Int → Bool) (hp : IsInts w vp part) (hlen : part.length ≤ 100000) (hen : Enters Try.prog fn)
    (hf : ∀ W, Below w.heap.size w W → ∀ x ∈ part, Calls Try.prog fn (#[.int .i64 x] ++ lb) W (Calm (.bool (f x)) W)) :
    Calls Try.prog 66 #[vp, .func (.func fn) #[] lb] w (NewSet (part.filter f) w) := by
  obtain ⟨⟨ao, cap, bp, op, rfl, g0⟩, -⟩ := hp
  have hn := g0.nb
  have HG := Lib.hid g0.el
  have HAd := Lib.hid g0.ad
  have HF := Lib.hid (fun W (hW : Below w.heap.size w W) k (hk : k < part.length) => hf W hW part[k] (List.getElem_mem hk))
  clear g0 hf
  go_enter Try.func66, Try.ntmps66
  go_wp2
  go_loopg [5, 7, 10] part.length (fun gh s _ i wr => ∃ k : Nat, gh = part.length - k ∧ i = .int .i64 k ∧ k ≤ part.length ∧ Hid (OI wr w.heap.size s ((part.take k).filter f)) ∧ Below w.heap.size w wr)
  case atStart => exact ⟨0, by omega, rfl, by omega, OI_nil _ _, Below.refl _ _⟩
  case round =>
    obtain ⟨k, rfl, rfl, hk, HO, hW⟩ := hrel
    by_cases hlt : k < part.length
    · obtain rfl := HAd.out (by omega)
      have e1 := cellB hW (HG.out k hlt)
      unfold ivF at e1
      rw [getD_lt _ _ _ hlt] at e1
      have HFk := Lib.hid (HF.out wr hW k hlt)
      have HS : Hid ((part.take (k + 1)).filter f = (part.take k).filter f ++ if f part[k] then [part[k]] else []) := by
        show _ = _
        rw [List.take_succ_eq_append_getElem hlt, List.filter_append]
        congr 1
        cases h : f part[k] <;> simp [h]
      have hlf : ((part.take k).filter f).length ≤ 100000 := Nat.le_trans (List.length_filter_le _ _) (by rw [List.length_take]; omega)
      generalize part[k] = x at *
      generalize (part.take k).filter f = lk at *
      have hE := hen (#[.int .i64 x] ++ lb) wr
      go_wp2_with fail
      clear hE
      refine HFk.out.mono ?_
      rintro e w2 ⟨rfl, hb2⟩
      have hW2 := hW.trans (hb2.mono hW.size)
      have HO2 := Lib.hid (HO.out.below hb2)
      have hz := hW2.size
      clear HO hW hb2 HFk
      cases hfx : f x with
      | true =>
        rw [hfx] at HS
        go_wp2_with (at_builtin; refine app_pos rfl _ _ x rfl w.heap.size _ _ HO2.out rfl _ (by simp) rfl (by omega) hz ?_; intro v' w' hown' hg hmv; have HO4 := Lib.hid hown'; have HC4 := Lib.hid (hW2.grown hg hz (fun g h => HO2.out.ge g h)); clear hown' hg hmv)
        go_roundg (part.length - (k + 1))
        case rel => exact ⟨k + 1, rfl, by go_num, by omega, by rw [HS.out]; exact HO4, HC4.out⟩
        case measure => omega
      | false =>
        rw [hfx] at HS
        go_wp2
        go_roundg (part.length - (k + 1))
        case rel => exact ⟨k + 1, rfl, by go_num, by omega, by rw [HS.out]; simpa using HO2, hW2⟩
        case measure => omega
    · obtain rfl : k = part.length := by omega
      go_wp2
      go_ret
      exact ⟨_, rfl, by have := HO.out; rwa [List.take_length] at this, hW⟩

theorem liftB_get (p : List Int) (b : Bool) : ∀ (l : List Bool), (∀ x ∈ p, ∃ v : Nat, x = v ∧ v < l.length) → ∀ v : Nat, v < l.length → (liftB l p b).getD v false = if (v : Int) ∈ p then b else l.getD v false := by
  induction p with
  | nil => intro l _ v _; simp [liftB]
  | cons x p ih =>
    intro l hp v hv
    obtain ⟨y, rfl, hy⟩ := hp x (by simp)
    show (liftB (l.set y b) p b).getD v false = _
    rw [ih (l.set y b) (fun x hx => by rw [List.length_set]; exact hp x (by simp [hx])) v (by rw [List.length_set]; exact hv), getD_setB _ _ _ _ hy]
    by_cases h1 : (v : Int) ∈ p
    · rw [if_pos h1, if_pos (by simp [h1])]
    · rw [if_neg h1]
      by_cases h2 : y = v
      · subst h2; simp
      · rw [if_neg h2, if_neg]
        simp only [List.mem_cons, not_or]
        exact ⟨by omega, h1⟩

theorem liftI_get (p : List Int) (b : Int) : ∀ (l : List Int), (∀ x ∈ p, ∃ v : Nat, x = v ∧ v < l.length) → ∀ v : Nat, v < l.length → (liftI l p b).getD v 0 = if (v : Int) ∈ p then b else l.getD v 0 := by
  induction p with
  | nil => intro l _ v _; simp [liftI]
  | cons x p ih =>
    intro l hp v hv
    obtain ⟨y, rfl, hy⟩ := hp x (by simp)
    show (liftI (l.set y b) p b).getD v 0 = _
    rw [ih (l.set y b) (fun x hx => by rw [List.length_set]; exact hp x (by simp [hx])) v (by rw [List.length_set]; exact hv), getD_setI _ _ _ _ hy]
    by_cases h1 : (v : Int) ∈ p
    · rw [if_pos h1, if_pos (by simp [h1])]
    · rw [if_neg h1]
      by_cases h2 : y = v
      · subst h2; simp
      · rw [if_neg h2, if_neg]
        simp only [List.mem_cons, not_or]
        exact ⟨by omega, h1⟩

section
variable {g : Gm} {p : Int} {n : Nat} {s : List Bool} {t : List Int} {a : Nat} {r : List Int} {st : Wk}
theorem WInv.len (h : WInv g p n s t a r st) : st.q.length ≤ n := by
  refine Nat.le_of_not_lt fun hlt => ?_
  obtain ⟨i, j, h1, h2, h3⟩ := pigeon n (fun i => (st.q.getD i 0).toNat) fun i hi => by
    obtain ⟨v, e, hv, -⟩ := h.qr _ (get_mem (show i < st.q.length by omega))
    simp only [e, Int.toNat_natCast]; exact hv
  obtain ⟨v, e, -, -⟩ := h.qr _ (get_mem (show i < st.q.length by omega))
  obtain ⟨v', e', -, -⟩ := h.qr _ (get_mem (show j < st.q.length by omega))
  simp only [e, e', Int.toNat_natCast] at h3
  have := nodup_get h.nd (show i < st.q.length by omega) (show j < st.q.length by omega) (by rw [e, e', h3])
  omega
end

section
variable {g : Gm} {p : Int} {n : Nat} {s : List Bool} {t : List Int} {a : Nat} {r : List Int} {st : Wk}
theorem WInv.pos {u v : Nat} (h : WInv g p n s t a r st) (ha : a < st.q.length) (hu : st.q.getD a 0 = u) (hv : v < n) (hc : (r ++ [(v : Int)]).count (v : Int) ≤ (g.succ.getD v []).count (u : Int)) : 1 ≤ st.lf.getD v 0 ∧ st.lf.getD v 0 ≤ ((g.succ.getD v []).length : Int) := by
  have huq : (u : Int) ∈ st.q := by rw [← hu]; exact get_mem ha
  obtain ⟨u', e, hun, hus⟩ := h.qr _ huq
  obtain rfl : u = u' := by omega
  have hut : (u : Int) ∉ st.q.take a := fun hm => by
    obtain ⟨j, j1, j2, e⟩ := take_get hm
    have := nodup_get h.nd j2 ha (by rw [e, hu])
    omega
  have hPu : (inS s (u : Int) && decide ((u : Int) ∉ st.q.take a)) = true := by rw [show inS s (u : Int) = true from hus]; simp [hut]
  have hle := countOne (P := fun x => inS s x && decide (x ∉ st.q.take a)) hPu (g.succ.getD v [])
  have hlv := h.lf v hv
  have hcs : (r ++ [(v : Int)]).count (v : Int) = r.count (v : Int) + 1 := by rw [count_snoc]; simp
  have hcl := List.countP_le_length (p := fun x => inS s x && decide (x ∉ st.q.take a)) (l := g.succ.getD v [])
  omega
end

/-- What attract leaves. -/
def Attr1 (w : World) (D : Ad) (g : Gm) (n : Nat) (p : Int) (al : List Bool) (t wn : List Int) (e : Ending) (w' : World) : Prop :=
  ∃ vq st, e = .returned vq ∧ OI w' w.heap.size vq st.q ∧ OB w' 0 (.slice (some ⟨D.ba, 0, none⟩) n n) st.al ∧ OI w' 0 (.slice (some ⟨D.bl, 0, none⟩) n n) st.lf ∧ OI w' 0 (.slice (some ⟨D.bw, 0, none⟩) n n) wn ∧ Only D.hot w w' ∧ WInv g p n al t st.q.length [] st

/-- What is known of a game and its rows. -/
structure GOK (g : Gm) (n : Nat) (bf : List (List Int)) : Prop where
  n3 : n ≤ 3000
  on : g.owner.length = n
  pn : g.prio.length = n
  bn : bf.length = n
  bo : BfOK g n bf
  bs : ∀ u, (bf.getD u []).length ≤ 3000000
  sl : ∀ v, (g.succ.getD v []).length ≤ 1000
  rg : ∀ i, i < n → ∀ x ∈ g.succ.getD i [], ∃ v : Nat, x = v ∧ v < n
  ow : ∀ i, i < n → g.owner.getD i 0 = 0 ∨ g.owner.getD i 0 = 1
  pr : ∀ i, i < n → 0 ≤ g.prio.getD i 0 ∧ g.prio.getD i 0 ≤ 30000

/-- The counts of the successors that are alive. -/
def LfOK (g : Gm) (n : Nat) (al : List Bool) (lf : List Int) : Prop := ∀ v, v < n → lf.getD v 0 = ((g.succ.getD v []).countP (inS al) : Nat)

def TotB (g : Gm) (n : Nat) (al : List Bool) : Prop := ∀ v, v < n → al.getD v false = true → ∃ x ∈ g.succ.getD v [], inS al x = true

set_option maxRecDepth 100000 in
set_option maxHeartbeats 4000000 in
theorem attract_c (w : World) (D : Ad) (g : Gm) (n : Nat) (bf : List (List Int)) (al : List Bool) (lf wn : List Int) (p : Int) (vt : Value) (t : List Int) (hS : Sv w.heap.size w D g n bf al lf wn) (hG : GOK g n bf) (ht : IsInts w vt t)
    (hr : ∀ x ∈ t, ∃ v : Nat, x = v ∧ v < n ∧ al.getD v false = true) (hnd : t.Nodup) (htl : t.length ≤ 3000) (hlf : LfOK g n al lf) (htot : TotB g n al) :
    Calls Try.prog 65 #[.pointer (some ⟨D.sp, 0, none⟩), .int .i64 p, vt] w (Attr1 w D g n p al t wn) := by
  obtain ⟨aot, capt, bt, ot, rfl, -⟩ := id ht.1
  have HT := Lib.hid ht
  have HS := Lib.hid hS
  have HGO := Lib.hid hG
  have HR := Lib.hid hr
  have HTI : Hid (∀ x ∈ t, I64 x) := ht.2
  have HI : Hid (WInv g p n al t 0 [] ⟨t, liftB al t false, lf⟩) := by
    refine WInv.start (by rw [liftB_len]; exact hS.la) hS.ll (fun v hv => ?_) hr hnd hlf htot
    rw [liftB_get _ _ _ (fun x hx => by obtain ⟨v, h1, h2, -⟩ := hr x hx; exact ⟨v, h1, by rw [hS.la]; exact h2⟩) v (by rw [hS.la]; exact hv)]
    by_cases h : (v : Int) ∈ t <;> simp [h]
  have hn3 := hG.n3
  clear ht hS hG hr hnd hlf htot
  go_enter Try.func65, Try.ntmps65
  go_upto_region 2 with (at_builtin; refine app_set rfl _ _ rfl w.heap.size _ _ [] t (OI_nil _ _) rfl HT.out rfl (by rw [List.length_nil]; omega) (Nat.le_refl _) ?_; intro v1 w1 hown1 hg1 hmv1; rw [List.nil_append] at hown1; have HO1 := Lib.hid hown1; have HW1 : Hid (Below w.heap.size w w1) := (Below.refl _ _).grown hg1 (Nat.le_refl _) (fun k hk => by cases hk); clear hown1 hg1 hmv1)
  have HS1 := Lib.hid (HS.out.below HW1.out)
  have c4 := HS1.out.field 4 rfl
  obtain ⟨ao1, cap1, rfl⟩ := HO1.out.slice
  have hhot := HS.out.hb
  go_wp2_with fail
  refine (liftB_c w1 D.ba n _ al t false HS1.out.a HS1.out.la (fun W hW => (HO1.out.only hW fun k hk e => by have := HO1.out.ge k hk; omega).is (by unfold maxN; omega) HTI.out) (fun x hx => by obtain ⟨v, h1, h2, -⟩ := HR.out x hx; exact ⟨v, h1, h2⟩)).mono ?_
  rintro e w2 ⟨rfl, hA2, hO2⟩
  have HS2 : Hid (Sv w.heap.size w2 D g n bf (liftB al t false) lf wn) := HS1.out.toA hO2 hA2 (by rw [liftB_len]; exact HS1.out.la)
  have HQ2 : Hid (OI w2 w.heap.size (.slice ao1 t.length cap1) t) := HO1.out.only hO2 fun k hk e => by have := HO1.out.ge k hk; omega
  have HH2 : Hid (Only D.hot w w2) := (Only.of_below HW1.out).trans (Only.one hO2 (.inl rfl))
  clear hA2 hO2 c4
  go_wp2
  go_loopg [7, 8] n (fun gh vq at_ wr => ∃ (a : Nat) (st : Wk), gh = n - a ∧ at_ = .int .i64 a ∧ a ≤ st.q.length ∧ Hid (WInv g p n al t a [] st) ∧ Hid (OI wr w.heap.size vq st.q) ∧ Hid (Sv w.heap.size wr D g n bf st.al st.lf wn) ∧ Hid (Only D.hot w wr))
  case atStart => exact ⟨0, _, by omega, rfl, by omega, HI, HQ2, HS2, HH2⟩
  case round =>
    clear HI HQ2 HS2 HH2 HO1 HW1 HS1 HT HR HTI htl
    obtain ⟨a, st, rfl, rfl, ha, HI, HQ, HSv, HH⟩ := hrel
    obtain ⟨aq, cq, rfl⟩ := HQ.out.slice
    have hql := HI.out.len
    by_cases hlt : a < st.q.length
    · obtain ⟨u, hu, hun, hus⟩ := HI.out.qr _ (get_mem hlt)
      obtain ⟨gq, cq', hvq, -, -⟩ := HQ.out.row (by omega)
      obtain ⟨rfl, rfl⟩ : aq = some ⟨gq, 0, none⟩ ∧ cq = cq' := by simpa using hvq
      have e1 := HQ.out.at' rfl a hlt
      rw [← getD_lt _ 0 _ hlt, hu] at e1
      have hF := HSv.out.fx wr (Only.refl _ _)
      have c3 := HSv.out.field 3 rfl
      obtain ⟨ab, cb, bb, ob, hvb, gB⟩ := hF.be
      obtain ⟨⟨ar, cr, br, or_, hVr, gR⟩, -⟩ := hF.br u hun
      obtain rfl := gB.ad (by omega)
      have e2 := gB.el u hun
      rw [hvb] at c3
      rw [hVr] at e2
      have hnr := gR.nb
      have hrow : Hid (∀ k, k < (bf.getD u []).length → ∃ v : Nat, (bf.getD u []).getD k 0 = v ∧ v < n) := fun k hk => HGO.out.bo.rg u _ (get_mem hk)
      have HAll := Lib.hid (fun k hk => HI.out.all hlt hu (HGO.out.bo.rg u) (fun v hv => HGO.out.bo.ct u v hun hv) k hk)
      have HCt := Lib.hid (fun v hv => HGO.out.bo.ct u v hun hv)
      have HVr := Lib.hid hVr
      have hlen3 := HGO.out.bs u
      clear hF gB gR hVr hvb hvq
      generalize hre : bf.getD u [] = row at *
      have HRe := Lib.hid hre
      clear hre
      go_upto_region 6 with (fail)
      refine wp_region_quiet_lit (by kernel_rfl) (by kernel_rfl) ?_
      ((repeat (go_big_quiet_step (fail))); refine wpQuiet_nil ?_; rintro _ ⟨nq, rfl⟩)
      have HSv0 := Lib.hid (HSv.out.below (below_draws wr wr.heap.size nq))
      have HQ0 := Lib.hid (HQ.out.below (below_draws wr wr.heap.size nq))
      have HH0 : Hid (Only D.hot w (wr.drewN nq)) := HH.out.trans (Only.of_below (below_draws wr wr.heap.size nq))
      clear HSv HQ HH e1 e2 c3
      generalize wr.drewN nq = w4 at *
      go_wp2
      go_loopg [7, 10, 36] row.length (fun gh vq _ i wx => ∃ k : Nat, gh = row.length - k ∧ i = .int .i64 k ∧ k ≤ row.length ∧ Hid (OI wx w.heap.size vq (wkAll g p st (row.take k)).q) ∧ Hid (Sv w.heap.size wx D g n bf (wkAll g p st (row.take k)).al (wkAll g p st (row.take k)).lf wn) ∧ Hid (Only D.hot w wx))
      case atStart => exact ⟨0, by omega, rfl, by omega, HQ0, HSv0, HH0⟩
      case round =>
        clear HSv0 HQ0 HH0
        obtain ⟨k, rfl, rfl, hk, HQ, HSv, HH⟩ := hrel
        by_cases hlk : k < row.length
        · have hst := HAll.out k hk
          obtain ⟨v, hv, hvn⟩ := hrow.out k hlk
          have hNx : Hid (wkAll g p st (row.take (k + 1)) = wkStep g p (wkAll g p st (row.take k)) v) := by
            show _ = _
            rw [List.take_succ_eq_append_getElem hlk, wkAll_snoc, ← getD_lt _ 0 _ hlk, hv]
          have hcnt : (row.take k ++ [(v : Int)]).count (v : Int) ≤ (g.succ.getD v []).count (u : Int) := by
            rw [← HCt.out v hvn, ← hv, getD_lt _ 0 _ hlk, ← List.take_succ_eq_append_getElem hlk]
            exact List.Sublist.count_le _ (List.take_sublist _ _)
          obtain ⟨hI, eq, hq⟩ := hst
          have ha' : a < (wkAll g p st (row.take k)).q.length := by rw [hq, List.length_append]; omega
          have hu' : (wkAll g p st (row.take k)).q.getD a 0 = u := by rw [hq, ← hu]; simp [List.getD, List.getElem?_append_left hlt]
          obtain ⟨hx1, hx2⟩ := hI.pos ha' hu' hvn hcnt
          have hsl := HGO.out.sl v
          have hql2 := hI.len
          have hF := HSv.out.fx wr (Only.refl _ _)
          obtain ⟨⟨ar', cr', br', or', hVr', gR⟩, -⟩ := hF.br u hun
          rw [HRe.out] at hVr' gR
          obtain ⟨rfl, rfl⟩ : ar = ar' ∧ cr = cr' := by simpa using HVr.out.symm.trans hVr'
          obtain rfl := gR.ad (by omega)
          have e3 := gR.el k hlk
          unfold ivF at e3
          rw [hv] at e3
          clear hF gR hVr' hcnt ha' hu' hq
          have HIk := Lib.hid hI
          clear hI
          generalize wkAll g p st (row.take k) = sk at *
          generalize hx : sk.lf.getD v 0 = x at *
          have HX := Lib.hid hx
          clear hx
          obtain ⟨aq, cq, hvq⟩ := HQ.out.slice
          subst hvq
          have c5 := HSv.out.field 5 rfl
          obtain ⟨l1, l2⟩ := HSv.out.cellL hvn
          rw [HX.out] at l1
          have HS1 := Lib.hid (HSv.out.setL v (x - 1))
          have HH1 : Hid (Only D.hot w (wr.setCell ⟨D.bl, v, none⟩ (.int .i64 (x - 1)))) := HH.out.trans (Only.one (Only.set _ _ _ rfl) (.inr (.inl rfl)))
          have HQ1 : Hid (OI (wr.setCell ⟨D.bl, v, none⟩ (.int .i64 (x - 1))) w.heap.size (.slice aq sk.q.length cq) sk.q) := HQ.out.only (Only.set (S := fun k => k = D.bl) _ _ _ rfl) fun k hk e => by have := HQ.out.ge k hk; omega
          have c4 := HS1.out.field 4 rfl
          have c6 := HS1.out.field 5 rfl
          have c0 := HS1.out.field 0 rfl
          obtain ⟨a1, a2⟩ := HS1.out.cellA hvn
          obtain ⟨m1, -⟩ := HS1.out.cellL hvn
          rw [getD_setI _ _ _ _ (by rw [HSv.out.ll]; exact hvn), if_pos rfl] at m1
          have hF1 := HS1.out.fx _ (Only.refl _ _)
          obtain ⟨⟨ao, co, bo, oo, hv0, gO⟩, -⟩ := hF1.ow
          have hon := HGO.out.on
          have hno := gO.nb
          obtain rfl := gO.ad (by omega)
          have e4 := gO.el v (by omega)
          unfold ivF at e4
          rw [hv0, hon] at c0
          have hs1 : IntKind.i64.wrap (x - 1) = x - 1 := IntWalk.i64_in _ ⟨by omega, by omega⟩
          clear hF1 gO hv0 hon
          have HNx := hNx
          rw [wkStep_nat, HX.out] at HNx
          clear hNx
          by_cases hal : sk.al.getD v false = true
          · rw [hal] at a1
            by_cases hor : g.owner.getD v 0 = p ∨ x - 1 = 0
            · have hcond : (sk.al.getD v false && (decide (g.owner.getD v 0 = p) || decide (x - 1 = 0))) = true := by rw [hal]; simpa using hor
              have HNy : Hid (wkAll g p st (row.take (k + 1)) = ⟨sk.q ++ [(v : Int)], sk.al.set v false, sk.lf.set v (x - 1)⟩) := by show _ = _; rw [HNx.out, if_pos hcond]
              have HS2 := Lib.hid (HS1.out.setA v false)
              have HH2 : Hid (Only D.hot w ((wr.setCell ⟨D.bl, v, none⟩ (.int .i64 (x - 1))).setCell ⟨D.ba, v, none⟩ (.bool false))) := HH1.out.trans (Only.one (Only.set _ _ _ rfl) (.inl rfl))
              have HQ2 : Hid (OI ((wr.setCell ⟨D.bl, v, none⟩ (.int .i64 (x - 1))).setCell ⟨D.ba, v, none⟩ (.bool false)) w.heap.size (.slice aq sk.q.length cq) sk.q) := HQ1.out.only (Only.set (S := fun k => k = D.ba) _ _ _ rfl) fun k hk e => by have := HQ1.out.ge k hk; omega
              have hz2 := HH2.out.size
              clear hcond HNx HIk HH1 HQ1 HS1 HSv HH HQ hal
              generalize g.owner.getD v 0 = ov at *
              by_cases ho : ov = p
              · clear hor
                go_wp2_with (at_builtin; refine app_pos rfl _ _ (v : Int) rfl w.heap.size _ _ HQ2.out rfl _ (by simp) rfl (by omega) hz2 ?_; intro v' w' hown' hg hmv; have HO4 := Lib.hid hown'; have HS4 : Hid (Sv w.heap.size w' D g n bf (sk.al.set v false) (sk.lf.set v (x - 1)) wn) := HS2.out.above ((Only.of_grown hg).mono fun k _ hk => HQ2.out.ge k hk); have HH4 : Hid (Only D.hot w w') := HH2.out.grow hg (fun k hk => HQ2.out.ge k hk); clear hown' hg hmv)
                go_roundg (row.length - (k + 1))
                case rel => exact ⟨k + 1, rfl, by go_num, by omega, by rw [HNy.out]; exact HO4, by rw [HNy.out]; exact HS4, HH4⟩
                case measure => omega
              · have hz := hor.resolve_left ho
                have hzb : (x - 1 == 0) = true := by simp [hz]
                have hob : (ov == p) = false := beq_eq_false_iff_ne.2 ho
                clear hor hz
                go_wp2_with (at_builtin; refine app_pos rfl _ _ (v : Int) rfl w.heap.size _ _ HQ2.out rfl _ (by simp) rfl (by omega) hz2 ?_; intro v' w' hown' hg hmv; have HO4 := Lib.hid hown'; have HS4 : Hid (Sv w.heap.size w' D g n bf (sk.al.set v false) (sk.lf.set v (x - 1)) wn) := HS2.out.above ((Only.of_grown hg).mono fun k _ hk => HQ2.out.ge k hk); have HH4 : Hid (Only D.hot w w') := HH2.out.grow hg (fun k hk => HQ2.out.ge k hk); clear hown' hg hmv)
                go_roundg (row.length - (k + 1))
                case rel => exact ⟨k + 1, rfl, by go_num, by omega, by rw [HNy.out]; exact HO4, by rw [HNy.out]; exact HS4, HH4⟩
                case measure => omega
            · have hcond : ¬ (sk.al.getD v false && (decide (g.owner.getD v 0 = p) || decide (x - 1 = 0))) = true := by rw [hal]; simpa using hor
              have HNy : Hid (wkAll g p st (row.take (k + 1)) = ⟨sk.q, sk.al, sk.lf.set v (x - 1)⟩) := by show _ = _; rw [HNx.out, if_neg hcond]
              have ho : ¬ g.owner.getD v 0 = p := fun h => hor (.inl h)
              have hz : ¬ x - 1 = 0 := fun h => hor (.inr h)
              have hzb : (x - 1 == 0) = false := beq_eq_false_iff_ne.2 hz
              have hob : (g.owner.getD v 0 == p) = false := beq_eq_false_iff_ne.2 ho
              clear hcond HNx HIk HSv HH HQ hal hor
              generalize g.owner.getD v 0 = ov at *
              go_wp2
              go_roundg (row.length - (k + 1))
              case rel => exact ⟨k + 1, rfl, by go_num, by omega, by rw [HNy.out]; exact HQ1, by rw [HNy.out]; exact HS1, HH1⟩
              case measure => omega
          · rw [Bool.not_eq_true] at hal
            rw [hal] at a1
            have hcond : ¬ (sk.al.getD v false && (decide (g.owner.getD v 0 = p) || decide (x - 1 = 0))) = true := by rw [hal]; simp
            have HNy : Hid (wkAll g p st (row.take (k + 1)) = ⟨sk.q, sk.al, sk.lf.set v (x - 1)⟩) := by show _ = _; rw [HNx.out, if_neg hcond]
            clear hcond HNx HIk HSv HH HQ hal
            generalize g.owner.getD v 0 = ov at *
            go_wp2
            go_roundg (row.length - (k + 1))
            case rel => exact ⟨k + 1, rfl, by go_num, by omega, by rw [HNy.out]; exact HQ1, by rw [HNy.out]; exact HS1, HH1⟩
            case measure => omega
        · obtain rfl : k = row.length := by omega
          have hst := (HAll.out row.length (Nat.le_refl _)).1
          have hq := (HAll.out row.length (Nat.le_refl _)).2
          rw [List.take_length] at hst hq HQ HSv
          obtain ⟨eq, hq⟩ := hq
          have ha' : a < (wkAll g p st row).q.length := by rw [hq, List.length_append]; omega
          have hu' : (wkAll g p st row).q.getD a 0 = u := by rw [hq, ← hu]; simp [List.getD, List.getElem?_append_left hlt]
          have HIn := Lib.hid (hst.next ha' hu' (fun v hv => HCt.out v hv))
          have hln := hst.len
          have hs9 : IntKind.i64.wrap ((a : Int) + 1) = (a : Int) + 1 := IntWalk.i64_in _ ⟨by omega, by omega⟩
          clear hst hq hu' hu
          go_wp2
          go_roundg (n - (a + 1))
          case rel => exact ⟨a + 1, _, rfl, by go_num, by omega, HIn, HQ, HSv, HH⟩
          case measure => omega
    · obtain rfl : a = st.q.length := by omega
      go_wp2
      go_ret
      exact ⟨_, st, rfl, HQ.out, HSv.out.a, HSv.out.l, HSv.out.w, HH.out, HI.out⟩

def incAll (l row : List Int) : List Int := row.foldl (fun l v => l.set v.toNat (l.getD v.toNat 0 + 1)) l

def revAll (bf : List (List Int)) (l part : List Int) : List Int := part.foldl (fun l u => incAll l (bf.getD u.toNat [])) l

theorem incAll_snoc (l row : List Int) (v : Int) : incAll l (row ++ [v]) = (incAll l row).set v.toNat ((incAll l row).getD v.toNat 0 + 1) := by simp [incAll]

theorem revAll_snoc (bf : List (List Int)) (l part : List Int) (u : Int) : revAll bf l (part ++ [u]) = incAll (revAll bf l part) (bf.getD u.toNat []) := by simp [revAll]

theorem incAll_len (row : List Int) : ∀ l, (incAll l row).length = l.length := by
  induction row with
  | nil => intro l; rfl
  | cons v row ih => intro l; show (incAll _ row).length = _; rw [ih, List.length_set]

theorem revAll_len (bf : List (List Int)) (part : List Int) : ∀ l, (revAll bf l part).length = l.length := by
  induction part with
  | nil => intro l; rfl
  | cons v part ih => intro l; show (revAll bf _ part).length = _; rw [ih, incAll_len]

theorem incAll_get (row : List Int) : ∀ l, (∀ x ∈ row, ∃ y : Nat, x = y ∧ y < l.length) → ∀ v : Nat, v < l.length → (incAll l row).getD v 0 = l.getD v 0 + (row.count (v : Int) : Nat) := by
  induction row with
  | nil => intro l _ v _; simp [incAll]
  | cons x row ih =>
    intro l hr v hv
    obtain ⟨y, rfl, hy⟩ := hr x (by simp)
    show (incAll (l.set y (l.getD y 0 + 1)) row).getD v 0 = _
    rw [ih _ (fun x hx => by rw [List.length_set]; exact hr x (by simp [hx])) v (by rw [List.length_set]; exact hv), getD_setI _ _ _ _ hy, List.count_cons]
    by_cases h : y = v
    · subst h; simp; omega
    · have : ((y : Int) == (v : Int)) = false := by simp; omega
      rw [if_neg h, this]; simp

/-- How often a position is in the rows of a part. -/
def rowsC (bf : List (List Int)) (part : List Int) (v : Nat) : Nat := (part.map fun u => (bf.getD u.toNat []).count (v : Int)).sum

theorem revAll_get {n : Nat} (bf : List (List Int)) (hb : ∀ u, ∀ x ∈ bf.getD u [], ∃ y : Nat, x = y ∧ y < n) (part : List Int) : ∀ l : List Int, l.length = n → ∀ v : Nat, v < n → (revAll bf l part).getD v 0 = l.getD v 0 + (rowsC bf part v : Nat) := by
  induction part with
  | nil => intro l _ v _; simp [revAll, rowsC]
  | cons u part ih =>
    intro l hl v hv
    show (revAll bf (incAll l (bf.getD u.toNat [])) part).getD v 0 = _
    rw [ih _ (by rw [incAll_len, hl]) v hv, incAll_get _ _ (fun x hx => by rw [hl]; exact hb _ x hx) v (by omega)]
    have : rowsC bf (u :: part) v = (bf.getD u.toNat []).count (v : Int) + rowsC bf part v := by simp [rowsC]
    rw [this]; omega

theorem rowsC_le (bf : List (List Int)) (M : Nat) (hM : ∀ u, (bf.getD u []).length ≤ M) (part : List Int) (v : Nat) : rowsC bf part v ≤ part.length * M := by
  induction part with
  | nil => simp [rowsC]
  | cons u part ih =>
    have : rowsC bf (u :: part) v = (bf.getD u.toNat []).count (v : Int) + rowsC bf part v := by simp [rowsC]
    have h1 := List.count_le_length (l := bf.getD u.toNat []) (a := (v : Int))
    have h2 := hM u.toNat
    rw [this, List.length_cons, Nat.add_mul]; omega

/-- What revive leaves. -/
def Revived (w : World) (D : Ad) (n : Nat) (bf : List (List Int)) (al : List Bool) (lf wn part : List Int) (e : Ending) (w' : World) : Prop :=
  e = .returned (.tuple #[]) ∧ OB w' 0 (.slice (some ⟨D.ba, 0, none⟩) n n) (liftB al part true) ∧ OI w' 0 (.slice (some ⟨D.bl, 0, none⟩) n n) (revAll bf lf part) ∧ OI w' 0 (.slice (some ⟨D.bw, 0, none⟩) n n) wn ∧ Only D.hot w w'

set_option maxRecDepth 100000 in
set_option maxHeartbeats 4000000 in
theorem revive_c (w : World) (D : Ad) (g : Gm) (n : Nat) (bf : List (List Int)) (al : List Bool) (lf wn : List Int) (vp : Value) (part : List Int) (hS : Sv w.heap.size w D g n bf al lf wn) (hG : GOK g n bf) (hp : Kp w.heap.size w D vp part)
    (hr : ∀ x ∈ part, ∃ v : Nat, x = v ∧ v < n) (hpl : part.length ≤ 3000) (hlf : ∀ v, v < n → 0 ≤ lf.getD v 0 ∧ lf.getD v 0 ≤ 1000) :
    Calls Try.prog 67 #[.pointer (some ⟨D.sp, 0, none⟩), vp] w (Revived w D n bf al lf wn part) := by
  obtain ⟨aop, capp, bp, op, rfl, -⟩ := hp.is.1
  have HP := Lib.hid hp
  have HGO := Lib.hid hG
  have HR := Lib.hid (fun k (hk : k < part.length) => hr part[k] (List.getElem_mem hk))
  have HLf := Lib.hid hlf
  have c4 := hS.field 4 rfl
  have HS := Lib.hid hS
  have hhot := hS.hb
  have hrr := Lib.hid hr
  have HLL := Lib.hid hS.ll
  clear hp hG hr hlf hS
  go_enter Try.func67, Try.ntmps67
  go_wp2_with fail
  refine (liftB_c w D.ba n _ al part true HS.out.a HS.out.la (fun W hW => HP.out W (hW.mono fun _ _ e => .inl (.inl e))) hrr.out).mono ?_
  rintro e w2 ⟨rfl, hA2, hO2⟩
  have HS2 : Hid (Sv w.heap.size w2 D g n bf (liftB al part true) lf wn) := HS.out.toA hO2 hA2 (by rw [liftB_len]; exact HS.out.la)
  have HH2 : Hid (Only D.hot w w2) := Only.one hO2 (.inl rfl)
  clear hA2 hO2 c4
  go_wp2
  go_loopg [5, 16] part.length (fun gh _ i wr => ∃ k : Nat, gh = part.length - k ∧ i = .int .i64 k ∧ k ≤ part.length ∧ Hid (Sv w.heap.size wr D g n bf (liftB al part true) (revAll bf lf (part.take k)) wn) ∧ Hid (Only D.hot w wr))
  case atStart => exact ⟨0, by omega, rfl, by omega, HS2, HH2⟩
  case round =>
    clear HS2 HH2 HS
    obtain ⟨k, rfl, rfl, hk, HSv, HH⟩ := hrel
    by_cases hlt : k < part.length
    · obtain ⟨⟨ap', cp', bp', op', hvp, gp⟩, -⟩ := HP.out wr HH.out.orB
      obtain ⟨rfl, rfl⟩ : aop = ap' ∧ capp = cp' := by simpa using hvp
      obtain rfl := gp.ad (by omega)
      have e1 := gp.el k hlt
      unfold ivF at e1
      rw [getD_lt _ _ _ hlt] at e1
      obtain ⟨u, hu, hun⟩ := HR.out k hlt
      rw [hu] at e1
      have hF := HSv.out.fx wr (Only.refl _ _)
      have c3 := HSv.out.field 3 rfl
      obtain ⟨ab, cb, bb, ob, hvb, gB⟩ := hF.be
      obtain ⟨⟨ar, cr, br, or_, hVr, gR⟩, -⟩ := hF.br u hun
      obtain rfl := gB.ad (by omega)
      have e2 := gB.el u hun
      rw [hvb] at c3
      rw [hVr] at e2
      have hnr := gR.nb
      have hrow : Hid (∀ k, k < (bf.getD u []).length → ∃ v : Nat, (bf.getD u []).getD k 0 = v ∧ v < n) := fun k hk => HGO.out.bo.rg u _ (get_mem hk)
      have HVr := Lib.hid hVr
      have HNx : Hid (revAll bf lf (part.take (k + 1)) = incAll (revAll bf lf (part.take k)) (bf.getD u [])) := by
        show _ = _
        rw [List.take_succ_eq_append_getElem hlt, revAll_snoc, hu, Int.toNat_natCast]
      have HBd : Hid (∀ v, v < n → 0 ≤ (revAll bf lf (part.take k)).getD v 0 ∧ (revAll bf lf (part.take k)).getD v 0 ≤ 9000001000) := fun v hv => by
        rw [revAll_get bf HGO.out.bo.rg _ lf HLL.out v hv]
        have h1 := HLf.out v hv
        have h2 := rowsC_le bf 3000000 HGO.out.bs (part.take k) v
        have h3 : (part.take k).length * 3000000 ≤ 3000 * 3000000 := Nat.mul_le_mul_right _ (by rw [List.length_take]; omega)
        omega
      have hbs := HGO.out.bs u
      have hrg := HGO.out.bo.rg u
      have HRg := Lib.hid hrg
      clear hF gB gR hVr hvb hrg gp hvp
      generalize hre : bf.getD u [] = row at *
      have HRe := Lib.hid hre
      clear hre
      generalize revAll bf lf (part.take k) = lk at *
      go_wp2
      obtain ⟨wo, rfl⟩ : ∃ wo : World, wo = wr := ⟨_, rfl⟩
      go_loopg [7, 28] row.length (fun gh _ i wx => ∃ j : Nat, gh = row.length - j ∧ i = .int .i64 j ∧ j ≤ row.length ∧ Hid (Sv w.heap.size wx D g n bf (liftB al part true) (incAll lk (row.take j)) wn) ∧ Hid (Only D.hot w wx))
      case atStart => exact ⟨0, by omega, rfl, by omega, HSv, HH⟩
      case round =>
        have HLk := Lib.hid HSv.out.ll
        clear HSv HH e1 e2 c3
        obtain ⟨j, rfl, rfl, hj, HSv, HH⟩ := hrel
        by_cases hlj : j < row.length
        · obtain ⟨v, hv, hvn⟩ := hrow.out j hlj
          have hF := HSv.out.fx wr (Only.refl _ _)
          obtain ⟨⟨ar', cr', br', or', hVr', gR⟩, -⟩ := hF.br u hun
          rw [HRe.out] at hVr' gR
          obtain ⟨rfl, rfl⟩ : ar = ar' ∧ cr = cr' := by simpa using HVr.out.symm.trans hVr'
          obtain rfl := gR.ad (by omega)
          have e3 := gR.el j hlj
          unfold ivF at e3
          rw [hv] at e3
          have HNy : Hid (incAll lk (row.take (j + 1)) = (incAll lk (row.take j)).set v ((incAll lk (row.take j)).getD v 0 + 1)) := by
            show _ = _
            rw [List.take_succ_eq_append_getElem hlj, incAll_snoc, ← getD_lt _ 0 _ hlj, hv, Int.toNat_natCast]
          have hbd : 0 ≤ (incAll lk (row.take j)).getD v 0 ∧ (incAll lk (row.take j)).getD v 0 ≤ 9003001000 := by
            rw [incAll_get _ _ (fun x hx => by rw [HLk.out]; exact HRg.out x (List.mem_of_mem_take hx)) v (by rw [HLk.out]; exact hvn)]
            have h1 := HBd.out v hvn
            have h2 := List.count_le_length (l := row.take j) (a := (v : Int))
            rw [List.length_take] at h2
            omega
          clear hF gR hVr'
          have c5 := HSv.out.field 5 rfl
          obtain ⟨l1, l2⟩ := HSv.out.cellL hvn
          have HS1 := Lib.hid (HSv.out.setL v ((incAll lk (row.take j)).getD v 0 + 1))
          have HH1 : Hid (Only D.hot w (wr.setCell ⟨D.bl, v, none⟩ (.int .i64 ((incAll lk (row.take j)).getD v 0 + 1)))) := HH.out.trans (Only.one (Only.set _ _ _ rfl) (.inr (.inl rfl)))
          rw [← HNy.out] at HS1
          clear HNy HSv HH hv
          generalize (incAll lk (row.take j)).getD v 0 = x at *
          have hs1 : IntKind.i64.wrap (x + 1) = x + 1 := IntWalk.i64_in _ ⟨by omega, by omega⟩
          go_wp2
          go_roundg (row.length - (j + 1))
          case rel => exact ⟨j + 1, rfl, by go_num, by omega, HS1, HH1⟩
          case measure => omega
        · obtain rfl : j = row.length := by omega
          rw [List.take_length, ← HNx.out] at HSv
          go_wp2
          go_roundg (part.length - (k + 1))
          case rel => exact ⟨k + 1, rfl, by go_num, by omega, HSv, HH⟩
          case measure => omega
    · obtain rfl : k = part.length := by omega
      rw [List.take_length] at HSv
      go_wp2
      go_end0
      exact ⟨rfl, HSv.out.a, HSv.out.l, HSv.out.w, HH.out⟩

theorem enters_living : Enters Try.prog 62 := enters_of Try.func62 (by kernel_rfl) rfl

theorem enters_other : Enters Try.prog 69 := enters_of Try.func69 (by kernel_rfl) rfl

theorem enters_low : Enters Try.prog 73 := enters_of Try.func73 (by kernel_rfl) rfl

set_option maxHeartbeats 1000000 in
theorem living_c (W : World) {B : Nat} {D : Ad} {g : Gm} {n : Nat} {bf : List (List Int)} {al : List Bool} {lf wn : List Int} (hS : Sv B W D g n bf al lf wn) (c v : Nat) (hc : W.cell? ⟨c, 0, none⟩ = some (.pointer (some ⟨D.sp, 0, none⟩))) (hv : v < n) :
    Calls Try.prog 62 #[.int .i64 (v : Int), .pointer (some ⟨c, 0, none⟩)] W (Calm (.bool (al.getD v false)) W) := by
  have c4 := hS.field 4 rfl
  obtain ⟨a1, -⟩ := hS.cellA hv
  clear hS
  generalize al.getD v false = b at *
  go_enter Try.func62, Try.ntmps62
  go_wp2
  go_ret
  exact ⟨rfl, Below.refl _ _⟩

end Go.Proofs.Ytijkjhcigdfdgaa
