/- A drawn region that lengthens a row by 'append' and then stores it: one obligation an operation. -/
import Derived.Test.YtdkpdpcecjcmcaaQRdCb
namespace Go.Proofs.Ytdkpdpcecjcmcaa
open Go Go.RowKit

section
variable {P : Program} {ops : Array Oper} {Q : Exit → Act → World → Prop}
/-- What operation p waits for, through others too. -/
def ancL (ops : Array Oper) (p : Nat) : List Nat :=
  (List.range (p + 1)).reverse.foldl (fun acc j => if acc.contains j then acc ++ (match ops[j]? with | some o => (o.after.toList.filter fun e => Region.binds .any e).map (·.on) | none => []) else acc) [p]
theorem ancL_in {S : Nat → Bool} (hc : Cl ops S) {p : Nat} (hp : S p = true) : ∀ i ∈ ancL ops p, S i = true := by
  unfold ancL
  have key : ∀ (js : List Nat) (acc : List Nat), (∀ i ∈ acc, S i = true) → ∀ i ∈ js.foldl (fun acc j => if acc.contains j then acc ++ (match ops[j]? with | some o => (o.after.toList.filter fun e => Region.binds .any e).map (·.on) | none => []) else acc) acc, S i = true := by
    intro js
    induction js with
    | nil => intro acc h i hi; exact h i hi
    | cons j js ih =>
      intro acc h i hi
      rw [List.foldl_cons] at hi
      refine ih _ (fun i hi => ?_) i hi
      split at hi
      · rename_i hj
        rcases List.mem_append.1 hi with hi | hi
        · exact h i hi
        · split at hi
          · rename_i o ho
            obtain ⟨e, he, rfl⟩ := List.mem_map.1 hi
            obtain ⟨he1, he2⟩ := List.mem_filter.1 he
            refine hc e.on j ?_ (h j (by simpa using hj))
            unfold waitsB
            rw [ho]
            exact List.any_eq_true.2 ⟨e, he1, by simp [he2]⟩
          · cases hi
      · exact h i hi
  exact key _ [p] fun i hi => by rw [List.mem_singleton.1 hi]; exact hp
def growB (ops : Array Oper) (p m : Nat) (free : Nat → Bool) : Bool := decide (p < m) && backB .any ops && (decide (ops.size = m + 1) && (List.range m).all fun i => (List.range m).any fun j => waitsB ops j m && (ancL ops j).contains i) && (List.range m).all fun i => i == p || free i || (!free i && (ancL ops p).contains i)
def GrInv (R : Nat → Value → World → Prop) (App : Value → World → World → Prop) (Fin : Value → Value → World → Prop) (p m : Nat) (vm : Value) (w : World) (S : Nat → Bool) (vs : Nat → Value) (W : World) : Prop :=
  (S m = false → vs m = vm) ∧
  (S m = false → S p = false → Below w.heap.size w W ∧ ∀ i, i < m → S i = true → R i (vs i) W) ∧
  (S m = false → S p = true → ∃ W9, Below w.heap.size w W9 ∧ (∀ i, i < m → i ≠ p → S i = true → R i (vs i) W9) ∧ App (vs p) W9 W) ∧
  (S m = true → (∀ i, i < m → i ≠ p → ∃ W9, R i (vs i) W9) ∧ Fin (vs p) (vs m) W)
/-- An operation ahead of the append. -/
def GrStep (P : Program) (Q : Exit → Act → World → Prop) (ops : Array Oper) (R : Nat → Value → World → Prop) (A : (Nat → Value) → Act) (m0 : Nat) (vm : Value) (w : World) (i : Nat) (o : Oper) : Prop :=
  ∀ (vs : Nat → Value) (W : World) (K : Act → World → Prop), vs m0 = vm → Below w.heap.size w W → (∀ j, waitsB ops j i = true → R j (vs j) W) → (∀ v W', Below W.heap.size W W' → R i v W' → K (A (upd vs i v)) W') →
    if Region.wanted o (yielded ops (A vs).tmps) = true then Oper.wp P o (A vs) W K Q else K ((A vs).put o.dst undef) W
/-- An operation that does not look at memory. -/
def GrFree (P : Program) (Q : Exit → Act → World → Prop) (ops : Array Oper) (R : Nat → Value → World → Prop) (A : (Nat → Value) → Act) (m0 : Nat) (vm : Value) (p i : Nat) (o : Oper) : Prop :=
  ∀ (vs : Nat → Value) (W : World) (K : Act → World → Prop), vs m0 = vm → (∀ j, j ≠ p → waitsB ops j i = true → ∃ W9, R j (vs j) W9) → (∀ v, (∀ W, R i v W) → K (A (upd vs i v)) W) →
    if Region.wanted o (yielded ops (A vs).tmps) = true then Oper.wp P o (A vs) W K Q else K ((A vs).put o.dst undef) W
/-- The append. -/
def GrApp (P : Program) (Q : Exit → Act → World → Prop) (ops : Array Oper) (R : Nat → Value → World → Prop) (App : Value → World → World → Prop) (A : (Nat → Value) → Act) (m0 : Nat) (vm : Value) (w : World) (i : Nat) (o : Oper) : Prop :=
  ∀ (vs : Nat → Value) (W : World) (K : Act → World → Prop), vs m0 = vm → Below w.heap.size w W → (∀ j, waitsB ops j i = true → R j (vs j) W) → (∀ v W', App v W W' → K (A (upd vs i v)) W') →
    if Region.wanted o (yielded ops (A vs).tmps) = true then Oper.wp P o (A vs) W K Q else K ((A vs).put o.dst undef) W
/-- The store. -/
def GrLast (P : Program) (Q : Exit → Act → World → Prop) (ops : Array Oper) (R : Nat → Value → World → Prop) (App : Value → World → World → Prop) (Fin : Value → Value → World → Prop) (A : (Nat → Value) → Act) (m0 : Nat) (vm : Value) (w : World) (p m : Nat) (o : Oper) : Prop :=
  ∀ (vs : Nat → Value) (W9 W : World) (K : Act → World → Prop), vs m0 = vm → Below w.heap.size w W9 → (∀ i, i < m → i ≠ p → R i (vs i) W9) → App (vs p) W9 W → (∀ v W', Fin (vs p) v W' → K (A (upd vs m v)) W') →
    if Region.wanted o (yielded ops (A vs).tmps) = true then Oper.wp P o (A vs) W K Q else K ((A vs).put o.dst undef) W
theorem upS_at {S : Nat → Bool} {i : Nat} : upS S i i = true := if_pos rfl
theorem upS_no {S : Nat → Bool} {i j : Nat} (h : j ≠ i) : upS S i j = S j := if_neg h
theorem upd_no {vs : Nat → Value} {i j : Nat} {v : Value} (h : j ≠ i) : upd vs i v j = vs j := if_neg h
theorem upd_at {vs : Nat → Value} {i : Nat} {v : Value} : upd vs i v i = v := if_pos rfl
theorem region_grow {id : Nat} {a : Act} {w : World} (hm : P.follows .mixedOrders = true) (R : Nat → Value → World → Prop) (App : Value → World → World → Prop) (Fin : Value → Value → World → Prop) (free : Nat → Bool) (p m : Nat) (A : (Nat → Value) → Act) (vs0 : Nat → Value) (ha : a = A vs0)
    (hg : growB ops p m free = true) (hR : ∀ i v W W', R i v W → Below W.heap.size W W' → R i v W')
    (hstep : ∀ i o, ops[i]? = some o → if i = p then GrApp P Q ops R App A m (vs0 m) w.drew i o else if i = m then GrLast P Q ops R App Fin A m (vs0 m) w.drew p m o else if free i = true then GrFree P Q ops R A m (vs0 m) p i o else GrStep P Q ops R A m (vs0 m) w.drew i o)
    (hfin : ∀ vs W, (∀ i, i < m → i ≠ p → ∃ W9, R i (vs i) W9) → Fin (vs p) (vs m) W → Q .normal (A vs) W) :
    (Code.region id ops true).wp P Q a w := by
  simp only [growB, Bool.and_eq_true, decide_eq_true_eq, List.all_eq_true, List.mem_range, List.any_eq_true, List.contains_iff_mem] at hg
  obtain ⟨⟨⟨hpm, hb⟩, hsz, hla⟩, hall⟩ := hg
  have hlast : ∀ S, Cl ops S → S m = true → ∀ i, i < m → S i = true := fun S hc hS i hi => by
    obtain ⟨j, hj, hw, hi'⟩ := hla i hi
    exact ancL_in hc (hc j m hw hS) i hi'
  refine region_inv hm (GrInv R App Fin p m (vs0 m) w.drew) A vs0 ha hb ⟨fun _ => rfl, fun _ _ => ⟨Below.refl _ _, fun _ _ h => (nomatch h)⟩, fun _ h => (nomatch h), fun h => (nomatch h)⟩ (fun i o ho => ?_) fun S vs W hS hJ => hfin vs W (hJ.2.2.2 (hS m (by omega))).1 (hJ.2.2.2 (hS m (by omega))).2
  intro S vs W K hSi hd hcl hJ hK
  have hio : i < ops.size := (Array.getElem?_eq_some_iff.1 ho).1
  have hwl : ∀ j, waitsB ops j i = true → j < i := fun j hj => by
    obtain ⟨o', ho', e, he, hbd, hon⟩ := waits_spec hj
    rw [← hon]
    exact backB_spec hb ho' e he hbd
  have hs := hstep i o ho
  by_cases hip : i = p
  · rw [if_pos hip] at hs
    subst hip
    have hSm : S m = false := by
      cases e : S m
      · rfl
      · have := hlast S hcl e i hpm; rw [hSi] at this; cases this
    obtain ⟨hB, hRs⟩ := hJ.2.1 hSm hSi
    refine hs vs W K (hJ.1 hSm) hB (fun j hj => hRs j (Nat.lt_trans (hwl j hj) hpm) (hd j hj)) fun v W' hA => hK v W' ⟨fun h => by rw [upd_no (by omega)]; exact hJ.1 hSm, fun _ h => ?_, fun _ _ => ⟨W, hB, fun j hj hne hSj => ?_, ?_⟩, fun h => ?_⟩
    · rw [upS_at] at h; cases h
    · rw [upS_no hne] at hSj
      rw [upd_no hne]
      exact hRs j hj hSj
    · rw [upd_at]; exact hA
    · rw [upS_no (by omega), hSm] at h; cases h
  · rw [if_neg hip] at hs
    by_cases him : i = m
    · rw [if_pos him] at hs
      subst him
      have hSall : ∀ j, j < i → S j = true := fun j hj => by
        obtain ⟨u, hu, hw, hi'⟩ := hla j hj
        exact ancL_in hcl (hd u hw) j hi'
      have hSp : S p = true := hSall p hpm
      obtain ⟨W9, hB, hRs, hA⟩ := hJ.2.2.1 hSi hSp
      refine hs vs W9 W K (hJ.1 hSi) hB (fun j hj hne => hRs j hj hne (hSall j hj)) hA fun v W' hQ => hK v W' ⟨fun h => ?_, fun h => ?_, fun h => ?_, fun _ => ⟨fun j hj hne => ⟨W9, ?_⟩, ?_⟩⟩
      · rw [upS_at] at h; cases h
      · rw [upS_at] at h; cases h
      · rw [upS_at] at h; cases h
      · rw [upd_no (by omega)]; exact hRs j hj hne (hSall j hj)
      · rw [upd_no (by omega), upd_at]; exact hQ
    · rw [if_neg him] at hs
      have hi : i < m := by omega
      have hSm : S m = false := by
        cases e : S m
        · rfl
        · have := hlast S hcl e i hi; rw [hSi] at this; cases this
      by_cases hf : free i = true
      · rw [if_pos hf] at hs
        refine hs vs W K (hJ.1 hSm) (fun j hjp hj => ?_) fun v hv => hK v W ⟨fun h => by rw [upd_no (by omega)]; exact hJ.1 hSm, fun _ h => ?_, fun _ h => ?_, fun h => ?_⟩
        · have hji := hwl j hj
          cases e : S p
          · exact ⟨W, (hJ.2.1 hSm e).2 j (by omega) (hd j hj)⟩
          · obtain ⟨W9, _, h2, h3⟩ := hJ.2.2.1 hSm e
            exact ⟨W9, h2 j (by omega) hjp (hd j hj)⟩
        · rw [upS_no (fun e => hip e.symm)] at h
          obtain ⟨h1, h2⟩ := hJ.2.1 hSm h
          refine ⟨h1, fun j hj hSj => ?_⟩
          by_cases e : j = i
          · subst e; rw [upd_at]; exact hv W
          · rw [upS_no e] at hSj
            rw [upd_no e]; exact h2 j hj hSj
        · rw [upS_no (fun e => hip e.symm)] at h
          obtain ⟨W9, h1, h2, h3⟩ := hJ.2.2.1 hSm h
          refine ⟨W9, h1, fun j hj hne hSj => ?_, by rw [upd_no (fun e => hip e.symm)]; exact h3⟩
          by_cases e : j = i
          · subst e; rw [upd_at]; exact hv W9
          · rw [upS_no e] at hSj
            rw [upd_no e]; exact h2 j hj hne hSj
        · rw [upS_no (by omega), hSm] at h; cases h
      · rw [if_neg hf] at hs
        have hSp : S p = false := by
          cases e : S p
          · rfl
          · have h1 := hall i hi
            simp only [Bool.or_eq_true, Bool.and_eq_true, beq_iff_eq, List.contains_iff_mem] at h1
            have : S i = true := by
              rcases h1 with (h1 | h1) | h1
              · exact absurd h1 hip
              · exact absurd h1 hf
              · exact ancL_in hcl e i h1.2
            rw [hSi] at this; cases this
        obtain ⟨hB, hRs⟩ := hJ.2.1 hSm hSp
        refine hs vs W K (hJ.1 hSm) hB (fun j hj => hRs j (Nat.lt_trans (hwl j hj) hi) (hd j hj)) fun v W' hb' hr => hK v W' ⟨fun h => by rw [upd_no (by omega)]; exact hJ.1 hSm, fun _ _ => ⟨hB.trans (hb'.mono hB.size), fun j hj hSj => ?_⟩, fun _ h => ?_, fun h => ?_⟩
        · by_cases e : j = i
          · subst e; rw [upd_at]; exact hr
          · rw [upS_no e] at hSj
            rw [upd_no e]; exact hR j _ W W' (hRs j hj hSj) hb'
        · rw [upS_no (fun e => hip e.symm), hSp] at h; cases h
        · rw [upS_no (by omega), hSm] at h; cases h
end

section
variable {P : Program} {ops : Array Oper} {Q : Exit → Act → World → Prop}
theorem region_grow4 {id : Nat} {a : Act} {w : World} (hm : P.follows .mixedOrders = true) (R : Nat → Value → World → Prop) (App : Value → World → World → Prop) (Fin : Value → Value → World → Prop) (free : Nat → Bool) (p m : Nat) (A : (Nat → Value) → Act) (vs0 : Nat → Value) (ha : a = A vs0)
    (hg : growB ops p m free = true) (hR : ∀ i v W W', R i v W → Below W.heap.size W W' → R i v W')
    (hstep : ∀ i o, i ≠ p → i ≠ m → free i = false → ops[i]? = some o → GrStep P Q ops R A m (vs0 m) w.drew i o)
    (hfree : ∀ i o, free i = true → ops[i]? = some o → GrFree P Q ops R A m (vs0 m) p i o)
    (happ : ∀ o, ops[p]? = some o → GrApp P Q ops R App A m (vs0 m) w.drew p o)
    (hlast : ∀ o, ops[m]? = some o → GrLast P Q ops R App Fin A m (vs0 m) w.drew p m o)
    (hfin : ∀ vs W, (∀ i, i < m → i ≠ p → ∃ W9, R i (vs i) W9) → Fin (vs p) (vs m) W → Q .normal (A vs) W) :
    (Code.region id ops true).wp P Q a w := by
  refine region_grow hm R App Fin free p m A vs0 ha hg hR (fun i o ho => ?_) hfin
  by_cases h1 : i = p
  · rw [if_pos h1]; subst h1; exact happ o ho
  · rw [if_neg h1]
    by_cases h2 : i = m
    · rw [if_pos h2]; subst h2; exact hlast o ho
    · rw [if_neg h2]
      by_cases h3 : free i = true
      · rw [if_pos h3]; exact hfree i o h3 ho
      · rw [if_neg h3]; exact hstep i o h1 h2 (by simpa using h3) ho
end

/-- A new row of numbers. -/
def FreshRow (B : Nat) (row : List Int) (y : Value) (W : World) : Prop := (∃ a c, y = .slice a row.length c) ∧ OI W B y row
theorem FreshRow.below {B : Nat} {row : List Int} {y : Value} {W W' : World} (h : FreshRow B row y W) (hb : Below W.heap.size W W') : FreshRow B row y W' := ⟨h.1, h.2.below hb⟩
/-- The element that 'append' is handed. -/
def FreshEl (B : Nat) (row : List Int) (v : Value) (W : World) : Prop := ∃ b y, v = .slice (some ⟨b, 0, none⟩) 1 1 ∧ W.heap[b]? = some (.cells #[y] 29 (0, 0)) ∧ FreshRow B row y W
theorem FreshEl.below {B : Nat} {row : List Int} {v : Value} {W W' : World} (h : FreshEl B row v W) (hb : Below W.heap.size W W') : FreshEl B row v W' := by
  obtain ⟨b, y, h1, h2, h3⟩ := h
  exact ⟨b, y, h1, (hb.block b (Array.getElem?_eq_some_iff.1 h2).1).trans h2, h3.below hb⟩
theorem FreshEl.made {B : Nat} {row : List Int} {y : Value} {W : World} (h : FreshRow B row y W) : FreshEl B row (.slice (some ⟨W.heap.size, 0, none⟩) 1 1) (W.alloc (.cells #[y] 29)) :=
  ⟨_, y, rfl, heap_alloc_new _ _, h.below (bel_box _)⟩
/-- What 'append' of a new row to a row of the call's own does. -/
def AppRow (C B : Nat) (row : List Int) (v : Value) (n : Nat) (l : List Value) (v' : Value) (W9 W : World) : Prop :=
  ∃ y, FreshRow C row y W9 ∧ W.ownsRow B 29 1 v' (n + 1) (l ++ [y]) ∧ W9.grownBy W v.ownBlock ∧ Moved W9 v v'
/-- 'append' of one row, wherever it lies, in a region that draws its order. -/
theorem wp_app_rowU {C : Nat} {row : List Int} {o : Oper} {a : Act} {K : Act → World → Prop} {Q : Exit → Act → World → Prop} (w : World) (s x : Operand)
    (ho : o.op = .call { callee := .builtin .append, args := #[s, x], argTypes := #[22, 22] })
    (base : Nat) (v : Value) (n : Nat) (l : List Value) (hs : a.eval s = v) (hown : w.ownsRow base 29 1 v n l) (u : Value) (hx : a.eval x = u)
    (hnew : FreshEl C row u w) (hn : n < 5864062014000) (hbase : base ≤ w.heap.size)
    (h : ∀ v' w', AppRow C base row v n l v' w w' → K (a.put o.dst v') w') : Oper.wp Try.prog o a w K Q := by
  obtain ⟨b, y, rfl, hb, hy⟩ := hnew
  have hy1 : y.oneCell' = true := by
    obtain ⟨⟨a1, c1, rfl⟩, -⟩ := hy
    rfl
  obtain ⟨i0, hi0, hz0, hz1, hz2⟩ := info_parts info_ints
  have hnews : ∀ j u', ([y] : List Value)[j]? = some u' → w.cell? ((⟨b, 0, none⟩ : Addr).add j) = some u' := fun j u' hu => by
    rw [show (⟨b, 0, none⟩ : Addr).add j = ⟨b, j, none⟩ by simp [Addr.add]; omega, cell_of_row w _ j _ _ _ hb]
    simpa using hu
  have h1 : ∀ u ∈ ([y] : List Value), u.oneCell' = true := by intro u hu; rw [List.mem_singleton.1 hu]; exact hy1
  obtain ⟨v', w', hr, h2, h3, h4⟩ := run_append_own (P := Try.prog) w base 22 o.type 29 i0 _ 1 24 Try.underlying22 hi0 hz0 hz1 hz2 rfl (by decide) v n l hown ⟨b, 0, none⟩ 1 1 [y] rfl hnews h1 (by simp only [maxLen]; omega) (by omega) hbase
  have h5 := run_append_fresh (P := Try.prog) w base 22 o.type 29 i0 _ 1 24 Try.underlying22 hi0 hz0 hz1 hz2 v n l hown ⟨b, 0, none⟩ 1 1 [y] rfl hnews h1 (by simp only [maxLen]; omega) (by omega) v' w' hr
  unfold Oper.wp execOp
  simp only [ho, resolve, invoke, builtin, Sem.run_bind, Sem.run_pure, Result.andThen_ok, List.map_toArray, List.map_cons, List.map_nil, hs, hx, hr]
  exact h v' w' ⟨y, hy, h2, h3, fun g hg => (h5 g hg).imp id (fun e => by omega)⟩

end Go.Proofs.Ytdkpdpcecjcmcaa
