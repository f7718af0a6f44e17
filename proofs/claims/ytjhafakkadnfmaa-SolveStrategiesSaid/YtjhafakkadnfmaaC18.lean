/- Rows of a call's own that lie apart from each other, and a game that is built by append. -/
import Derived.Test.YtjhafakkadnfmaaC16
import Derived.Deep.AppendLies
namespace Go.Proofs.Ytjhafakkadnfmaa
open Go.RowKit

/-- Values that own different blocks. -/
def Sep (l : List Value) : Prop := l.Pairwise Apart

theorem apart_none {v u : Value} (h : v.ownBlock = none) : Apart v u := fun g hg => by rw [h] at hg; cases hg

theorem Sep.get {l : List Value} (h : Sep l) {i j : Nat} (hij : i ≠ j) {u v : Value} (hi : l[i]? = some u) (hj : l[j]? = some v) : Apart u v := by
  obtain ⟨hi', rfl⟩ := List.getElem?_eq_some_iff.1 hi
  obtain ⟨hj', rfl⟩ := List.getElem?_eq_some_iff.1 hj
  have h2 := List.pairwise_iff_getElem.1 h
  rcases Nat.lt_or_ge i j with hlt | hge
  · exact h2 i j hi' hj' hlt
  · exact (h2 j i hj' hi' (by omega)).symm

theorem Sep.set {l : List Value} (h : Sep l) {w : World} {i : Nat} {v v' : Value} (hi : l[i]? = some v) (hm : Moved w v v') (hlt : ∀ u ∈ l, ∀ g, u.ownBlock = some g → g < w.heap.size) : Sep (l.set i v') := by
  refine List.pairwise_iff_getElem.2 fun a b ha hb hab => ?_
  rw [List.length_set] at ha hb
  rw [List.getElem_set, List.getElem_set]
  have hget : ∀ a (ha : a < l.length), l[a]? = some l[a] := fun a ha => by simp
  split
  · rename_i e
    subst e
    rw [if_neg (by omega)]
    exact ((h.get (by omega) (hget b hb) hi).moved hm (hlt _ (List.getElem_mem hb))).symm
  · split
    · rename_i e
      subst e
      exact (h.get (by omega) (hget a ha) hi).moved hm (hlt _ (List.getElem_mem ha))
    · exact h.get (by omega) (hget a ha) (hget b hb)

/-- A value in new memory lies apart. -/
theorem Sep.cons {l : List Value} (h : Sep l) {w : World} {v : Value} (hv : ∀ g, v.ownBlock = some g → w.heap.size ≤ g) (hlt : ∀ u ∈ l, ∀ g, u.ownBlock = some g → g < w.heap.size) : Sep (v :: l) :=
  List.pairwise_cons.2 ⟨fun u hu => (Apart.of_lt (hlt u hu) hv).symm, h⟩

theorem Sep.sub {l l' : List Value} (h : Sep l) (hs : l'.Sublist l) : Sep l' := h.sublist hs

theorem Sep.perm {l l' : List Value} (h : Sep l) (hp : l.Perm l') : Sep l' := (hp.pairwise_iff (fun h => Apart.symm h)).1 h

/-- The block of a box, told as a value. -/
def boxV (z : Nat) : Value := .slice (some ⟨z, 0, none⟩) 0 0
theorem boxV_own (z : Nat) : (boxV z).ownBlock = some z := rfl

/-- A game that is built in block z; others: what the call owns besides. -/
structure GB (w : World) (B z : Nat) (v0 v1 v2 : Value) (vals : List Value) (gm : Gm) (others : List Value) : Prop where
  box : w.heap[z]? = some (.cells #[v0, v1, v2] 25 (0, 0))
  zB : B ≤ z
  o : OI w B v0 gm.owner
  p : OI w B v1 gm.prio
  r : w.ownsRow B 22 1 v2 gm.succ.length vals
  e : ∀ j, j < gm.succ.length → OI w B (vals.getD j undef) (gm.succ.getD j [])
  sep : Sep (boxV z :: v0 :: v1 :: v2 :: (vals ++ others))
  lt : ∀ u ∈ others, ∀ g, u.ownBlock = some g → g < w.heap.size

section
variable {w w' : World} {B z : Nat} {v0 v1 v2 : Value} {vals others : List Value} {gm : Gm}

theorem GB.vl (h : GB w B z v0 v1 v2 vals gm others) : vals.length = gm.succ.length := by have := h.r.1; simpa using this

theorem GB.lts (h : GB w B z v0 v1 v2 vals gm others) : ∀ u ∈ boxV z :: v0 :: v1 :: v2 :: (vals ++ others), ∀ g, u.ownBlock = some g → g < w.heap.size := by
  intro u hu g hg
  simp only [List.mem_cons, List.mem_append] at hu
  rcases hu with rfl | rfl | rfl | rfl | hu | hu
  · cases hg; exact (Array.getElem?_eq_some_iff.1 h.box).1
  · exact h.o.lt' g hg
  · exact h.p.lt' g hg
  · exact (World.ownsRow.lt h.r g hg).2
  · obtain ⟨j, hj, rfl⟩ := List.getElem_of_mem hu
    have := (h.e j (by rw [← h.vl]; exact hj)).lt' g
    rw [getD_lt _ _ _ hj] at this
    exact this hg
  · exact h.lt u hu g hg

theorem GB.valAt (h : GB w B z v0 v1 v2 vals gm others) {j : Nat} (hj : j < gm.succ.length) : (boxV z :: v0 :: v1 :: v2 :: (vals ++ others))[j + 4]? = some (vals.getD j undef) := by
  have hl : j < vals.length := by rw [h.vl]; exact hj
  simp only [List.getElem?_cons_succ]
  rw [List.getElem?_append_left hl, getD_lt _ _ _ hl]
  simp [hl]

theorem GB.otherAt (h : GB w B z v0 v1 v2 vals gm others) {i : Nat} {u : Value} (hi : others[i]? = some u) : (boxV z :: v0 :: v1 :: v2 :: (vals ++ others))[gm.succ.length + i + 4]? = some u := by
  simp only [List.getElem?_cons_succ]
  rw [List.getElem?_append_right (by rw [h.vl]; omega), h.vl, Nat.add_sub_cancel_left]
  exact hi

theorem ownsRow_set_ne {w : World} {base e size n g j : Nat} {v u : Value} {xs : List Value} (h : w.ownsRow base e size v n xs) (hne : v.ownBlock ≠ some g) : (w.setCell ⟨g, j, none⟩ u).ownsRow base e size v n xs :=
  ownsRow_only (S := fun k => k = g) h ((Only.of_grown (grown_set w g j u)).mono (fun k _ hk => by cases hk; rfl)) (fun k hk e => hne (by rw [hk, e]))

theorem apart_box {v : Value} {z : Nat} (h : Apart (boxV z) v) : v.ownBlock ≠ some z := fun e => h z rfl e

/-- What else the call owns is as it was, when other values of the list grow. -/
theorem OI.grownA {w w' : World} {base : Nat} {v u : Value} {l : List Int} (h : OI w base v l) (hg : w.grownBy w' u.ownBlock) (ha : Apart v u) : OI w' base v l := OI.grown h hg ha.ne
theorem OB.grownA {w w' : World} {base : Nat} {v u : Value} {l : List Bool} (h : OB w base v l) (hg : w.grownBy w' u.ownBlock) (ha : Apart v u) : OB w' base v l := OB.grown h hg ha.ne

/-- Another row of the call's grows. -/
theorem GB.other (h : GB w B z v0 v1 v2 vals gm others) {i : Nat} {u u' : Value} (hi : others[i]? = some u) (hg : w.grownBy w' u.ownBlock) (hm : Moved w u u') (hu : ∀ g, u'.ownBlock = some g → g < w'.heap.size) : GB w' B z v0 v1 v2 vals gm (others.set i u') := by
  have hA : ∀ {k : Nat} {x : Value}, k < 4 + gm.succ.length → (boxV z :: v0 :: v1 :: v2 :: (vals ++ others))[k]? = some x → Apart x u := fun {k x} hk hx => h.sep.get (by omega) hx (h.otherAt hi)
  have hzb : Apart (boxV z) u := hA (k := 0) (by omega) rfl
  refine { box := ?_, zB := h.zB, o := h.o.grownA hg (hA (k := 1) (by omega) rfl), p := h.p.grownA hg (hA (k := 2) (by omega) rfl), r := ?_, e := ?_, sep := ?_, lt := ?_ }
  · rw [hg.block z (Array.getElem?_eq_some_iff.1 h.box).1 (fun e => hzb z rfl e.symm)]; exact h.box
  · exact World.ownsRow.kept h.r hg (hA (k := 3) (by omega) rfl).ne
  · intro j hj
    exact (h.e j hj).grownA hg (hA (k := j + 4) (by omega) (h.valAt hj))
  · have := h.sep.set (h.otherAt hi) hm h.lts
    have e : (boxV z :: v0 :: v1 :: v2 :: (vals ++ others)).set (gm.succ.length + i + 4) u' = boxV z :: v0 :: v1 :: v2 :: (vals ++ others.set i u') := by
      simp only [List.set_cons_succ]
      rw [List.set_append_right _ _ (by rw [h.vl]; omega), h.vl, Nat.add_sub_cancel_left]
    rwa [e] at this
  · intro x hx g hxg
    rcases List.mem_or_eq_of_mem_set hx with hx | rfl
    · exact Nat.lt_of_lt_of_le (h.lt x hx g hxg) hg.size
    · exact hu g hxg

/-- New memory changes nothing. -/
theorem GB.below (h : GB w B z v0 v1 v2 vals gm others) (hb : Below w.heap.size w w') : GB w' B z v0 v1 v2 vals gm others :=
  { box := by rw [hb.block z (Array.getElem?_eq_some_iff.1 h.box).1]; exact h.box
    zB := h.zB
    o := h.o.below hb
    p := h.p.below hb
    r := World.ownsRow.kept h.r (below_grown hb) (by cases v2.ownBlock <;> simp)
    e := fun j hj => (h.e j hj).below hb
    sep := h.sep
    lt := fun u hu g hg => Nat.lt_of_lt_of_le (h.lt u hu g hg) hb.size }

/-- A new value among the others. -/
theorem GB.add (h : GB w B z v0 v1 v2 vals gm others) {u : Value} (hu : u.ownBlock = none) : GB w B z v0 v1 v2 vals gm (u :: others) :=
  { h with
    sep := by
      have : Sep (u :: (boxV z :: v0 :: v1 :: v2 :: (vals ++ others))) := List.pairwise_cons.2 ⟨fun x _ => apart_none hu, h.sep⟩
      exact this.perm (List.perm_middle (l₁ := boxV z :: v0 :: v1 :: v2 :: vals) (a := u) (l₂ := others)).symm
    lt := fun x hx g hg => by
      rcases List.mem_cons.1 hx with rfl | hx
      · rw [hu] at hg; cases hg
      · exact h.lt x hx g hg }

/-- Without one of the others. -/
theorem GB.drop {u : Value} (h : GB w B z v0 v1 v2 vals gm (u :: others)) : GB w B z v0 v1 v2 vals gm others :=
  { h with
    sep := h.sep.sub (by simp)
    lt := fun x hx => h.lt x (List.mem_cons_of_mem _ hx) }

theorem GB.apart (h : GB w B z v0 v1 v2 vals gm others) {i j : Nat} (hij : i ≠ j) {u v : Value} (hi : others[i]? = some u) (hj : others[j]? = some v) : Apart u v :=
  h.sep.get (by omega) (h.otherAt hi) (h.otherAt hj)

/-- An empty game in a new block. -/
theorem GB.start {B : Nat} {others : List Value} {w : World} (hB : B ≤ w.heap.size) (hs : Sep others) (hl : ∀ u ∈ others, ∀ g, u.ownBlock = some g → g < w.heap.size) :
    GB (w.alloc (.cells #[.slice none 0 0, .slice none 0 0, .slice none 0 0] 25)) B w.heap.size (.slice none 0 0) (.slice none 0 0) (.slice none 0 0) [] ⟨[], [], []⟩ others :=
  { box := heap_alloc_new _ _
    zB := hB
    o := OI_nil _ _
    p := OI_nil _ _
    r := World.ownsRow_nil _ _ _ _
    e := fun j hj => absurd hj (by simp)
    sep := by
      refine Sep.cons (w := w) (l := .slice none 0 0 :: .slice none 0 0 :: .slice none 0 0 :: ([] ++ others)) ?_ (fun g hg => by cases hg; exact Nat.le_refl _) ?_
      · exact List.pairwise_cons.2 ⟨fun x _ => apart_none rfl, List.pairwise_cons.2 ⟨fun x _ => apart_none rfl, List.pairwise_cons.2 ⟨fun x _ => apart_none rfl, hs⟩⟩⟩
      · intro u hu g hg
        simp only [List.mem_cons, List.nil_append] at hu
        rcases hu with rfl | rfl | rfl | hu
        · cases hg
        · cases hg
        · cases hg
        · exact hl u hu g hg
    lt := fun u hu g hg => by have := hl u hu g hg; simp; omega }

/-- What a step of the game leaves of the rest. -/
structure Kept (B : Nat) (others : List Value) (w w' : World) : Prop where
  bl : Below B w w'
  oi : ∀ u ∈ others, ∀ b l, OI w b u l → OI w' b u l

theorem below_of_only {S : Nat → Prop} {a b : World} (h : Only S a b) (hB : ∀ k, S k → B ≤ k) (hs : B ≤ a.heap.size) : Below B a b := h.below B hB hs

theorem GB.atO (h : GB w B z v0 v1 v2 vals gm others) {k : Nat} {x : Value} (hk : k ≠ 1) (hx : (boxV z :: v0 :: v1 :: v2 :: (vals ++ others))[k]? = some x) : Apart x v0 := h.sep.get hk hx rfl
theorem GB.atP (h : GB w B z v0 v1 v2 vals gm others) {k : Nat} {x : Value} (hk : k ≠ 2) (hx : (boxV z :: v0 :: v1 :: v2 :: (vals ++ others))[k]? = some x) : Apart x v1 := h.sep.get hk hx rfl
theorem GB.atR (h : GB w B z v0 v1 v2 vals gm others) {k : Nat} {x : Value} (hk : k ≠ 3) (hx : (boxV z :: v0 :: v1 :: v2 :: (vals ++ others))[k]? = some x) : Apart x v2 := h.sep.get hk hx rfl
theorem GB.atZ (h : GB w B z v0 v1 v2 vals gm others) {k : Nat} {x : Value} (hk : k ≠ 0) (hx : (boxV z :: v0 :: v1 :: v2 :: (vals ++ others))[k]? = some x) : x.ownBlock ≠ some z := apart_box (h.sep.get (Ne.symm hk) rfl hx)
theorem GB.zlt (h : GB w B z v0 v1 v2 vals gm others) : z < w.heap.size := (Array.getElem?_eq_some_iff.1 h.box).1

theorem OI.setNe {w : World} {base g j : Nat} {v u : Value} {l : List Int} (h : OI w base v l) (hne : v.ownBlock ≠ some g) : OI (w.setCell ⟨g, j, none⟩ u) base v l := ownsRow_set_ne h hne

theorem kept_of {w w' : World} {B z j : Nat} {v x : Value} {others : List Value} (hg : w.grownBy w' v.ownBlock) (hvB : ∀ k, v.ownBlock = some k → B ≤ k) (hzB : B ≤ z) (hB : B ≤ w.heap.size)
    (ho : ∀ u ∈ others, Apart u v ∧ u.ownBlock ≠ some z) : Kept B others w (w'.setCell ⟨z, j, none⟩ x) where
  bl := ((Only.of_grown hg).below B (fun k hk => hvB k hk) hB).setCell hzB _
  oi := fun u hu _ _ h => OI.setNe (h.grownA hg (ho u hu).1) (ho u hu).2

/-- The owners grow. -/
theorem GB.stepO (h : GB w B z v0 v1 v2 vals gm others) {v0' : Value} {x : Int} (ho : OI w' B v0' (gm.owner ++ [x])) (hg : w.grownBy w' v0.ownBlock) (hm : Moved w v0 v0') (hB : B ≤ w.heap.size) :
    w'.heap[z]? = some (.cells #[v0, v1, v2] 25 (0, 0)) ∧ GB (w'.setCell ⟨z, 0, none⟩ v0') B z v0' v1 v2 vals ⟨gm.owner ++ [x], gm.prio, gm.succ⟩ others ∧ Kept B others w (w'.setCell ⟨z, 0, none⟩ v0') := by
  have hzne : v0.ownBlock ≠ some z := h.atZ (k := 1) (by omega) rfl
  have hbox : w'.heap[z]? = some (.cells #[v0, v1, v2] 25 (0, 0)) := by rw [hg.block z h.zlt (Ne.symm hzne)]; exact h.box
  have hoth : ∀ u ∈ others, Apart u v0 ∧ u.ownBlock ≠ some z := fun u hu => by
    obtain ⟨i, hi, rfl⟩ := List.getElem_of_mem hu
    have e := h.otherAt (i := i) (u := others[i]) (by simp [hi])
    exact ⟨h.atO (by omega) e, h.atZ (by omega) e⟩
  have hsep : Sep (boxV z :: v0' :: v1 :: v2 :: (vals ++ others)) := h.sep.set (i := 1) rfl hm h.lts
  refine ⟨hbox, { box := heap_setCell_same w' z 0 _ _ v0' hbox, zB := h.zB, o := ?_, p := ?_, r := ?_, e := ?_, sep := hsep, lt := ?_ }, kept_of hg h.o.ge h.zB hB hoth⟩
  · exact ho.setNe (apart_box (hsep.get (i := 0) (j := 1) (by omega) rfl rfl))
  · exact (h.p.grownA hg (h.atO (k := 2) (by omega) rfl)).setNe (h.atZ (k := 2) (by omega) rfl)
  · exact ownsRow_set_ne (World.ownsRow.kept h.r hg (h.atO (k := 3) (by omega) rfl).ne) (h.atZ (k := 3) (by omega) rfl)
  · intro j hj
    exact ((h.e j hj).grownA hg (h.atO (by omega) (h.valAt hj))).setNe (h.atZ (by omega) (h.valAt hj))
  · intro u hu g hug
    have := h.lt u hu g hug
    simp only [World.size_setCell]
    exact Nat.lt_of_lt_of_le this hg.size

/-- The priorities grow. -/
theorem GB.stepP (h : GB w B z v0 v1 v2 vals gm others) {v1' : Value} {x : Int} (ho : OI w' B v1' (gm.prio ++ [x])) (hg : w.grownBy w' v1.ownBlock) (hm : Moved w v1 v1') (hB : B ≤ w.heap.size) :
    w'.heap[z]? = some (.cells #[v0, v1, v2] 25 (0, 0)) ∧ GB (w'.setCell ⟨z, 1, none⟩ v1') B z v0 v1' v2 vals ⟨gm.owner, gm.prio ++ [x], gm.succ⟩ others ∧ Kept B others w (w'.setCell ⟨z, 1, none⟩ v1') := by
  have hzne : v1.ownBlock ≠ some z := h.atZ (k := 2) (by omega) rfl
  have hbox : w'.heap[z]? = some (.cells #[v0, v1, v2] 25 (0, 0)) := by rw [hg.block z h.zlt (Ne.symm hzne)]; exact h.box
  have hoth : ∀ u ∈ others, Apart u v1 ∧ u.ownBlock ≠ some z := fun u hu => by
    obtain ⟨i, hi, rfl⟩ := List.getElem_of_mem hu
    have e := h.otherAt (i := i) (u := others[i]) (by simp [hi])
    exact ⟨h.atP (by omega) e, h.atZ (by omega) e⟩
  have hsep : Sep (boxV z :: v0 :: v1' :: v2 :: (vals ++ others)) := h.sep.set (i := 2) rfl hm h.lts
  refine ⟨hbox, { box := heap_setCell_same w' z 1 _ _ v1' hbox, zB := h.zB, o := ?_, p := ?_, r := ?_, e := ?_, sep := hsep, lt := ?_ }, kept_of hg h.p.ge h.zB hB hoth⟩
  · exact (h.o.grownA hg (h.atP (k := 1) (by omega) rfl)).setNe (h.atZ (k := 1) (by omega) rfl)
  · exact ho.setNe (apart_box (hsep.get (i := 0) (j := 2) (by omega) rfl rfl))
  · exact ownsRow_set_ne (World.ownsRow.kept h.r hg (h.atP (k := 3) (by omega) rfl).ne) (h.atZ (k := 3) (by omega) rfl)
  · intro j hj
    exact ((h.e j hj).grownA hg (h.atP (by omega) (h.valAt hj))).setNe (h.atZ (by omega) (h.valAt hj))
  · intro u hu g hug
    have := h.lt u hu g hug
    simp only [World.size_setCell]
    exact Nat.lt_of_lt_of_le this hg.size

/-- A row of successors is appended: it was the first of the others. -/
theorem GB.stepR {vS : Value} {row : List Int} (h : GB w B z v0 v1 v2 vals gm (vS :: others)) (hS : OI w B vS row) {v2' : Value} (ho : w'.ownsRow B 22 1 v2' (gm.succ.length + 1) (vals ++ [vS])) (hg : w.grownBy w' v2.ownBlock) (hm : Moved w v2 v2') (hB : B ≤ w.heap.size) :
    w'.heap[z]? = some (.cells #[v0, v1, v2] 25 (0, 0)) ∧ GB (w'.setCell ⟨z, 2, none⟩ v2') B z v0 v1 v2' (vals ++ [vS]) ⟨gm.owner, gm.prio, gm.succ ++ [row]⟩ others ∧ Kept B others w (w'.setCell ⟨z, 2, none⟩ v2') := by
  have hzne : v2.ownBlock ≠ some z := h.atZ (k := 3) (by omega) rfl
  have hbox : w'.heap[z]? = some (.cells #[v0, v1, v2] 25 (0, 0)) := by rw [hg.block z h.zlt (Ne.symm hzne)]; exact h.box
  have hat : ∀ i u, (vS :: others)[i]? = some u → Apart u v2 ∧ u.ownBlock ≠ some z := fun i u hi => ⟨h.atR (by omega) (h.otherAt hi), h.atZ (by omega) (h.otherAt hi)⟩
  have hoth : ∀ u ∈ others, Apart u v2 ∧ u.ownBlock ≠ some z := fun u hu => by
    obtain ⟨i, hi, rfl⟩ := List.getElem_of_mem hu
    exact hat (i + 1) _ (by simp [hi])
  have hsep : Sep (boxV z :: v0 :: v1 :: v2' :: (vals ++ vS :: others)) := h.sep.set (i := 3) rfl hm h.lts
  have hvl := h.vl
  refine ⟨hbox, { box := heap_setCell_same w' z 2 _ _ v2' hbox, zB := h.zB, o := ?_, p := ?_, r := ?_, e := ?_, sep := by simpa using hsep, lt := ?_ }, kept_of hg (fun k hk => (World.ownsRow.lt h.r k hk).1) h.zB hB hoth⟩
  · exact (h.o.grownA hg (h.atR (k := 1) (by omega) rfl)).setNe (h.atZ (k := 1) (by omega) rfl)
  · exact (h.p.grownA hg (h.atR (k := 2) (by omega) rfl)).setNe (h.atZ (k := 2) (by omega) rfl)
  · simp only [List.length_append, List.length_singleton]
    exact ownsRow_set_ne ho (apart_box (hsep.get (i := 0) (j := 3) (by omega) rfl rfl))
  · intro j hj
    simp only [List.length_append, List.length_singleton] at hj
    by_cases e : j < gm.succ.length
    · rw [show (vals ++ [vS]).getD j undef = vals.getD j undef from by simp [List.getD, List.getElem?_append_left (show j < vals.length by omega)],
        show (gm.succ ++ [row]).getD j [] = gm.succ.getD j [] from by simp [List.getD, List.getElem?_append_left e]]
      exact ((h.e j e).grownA hg (h.atR (by omega) (h.valAt e))).setNe (h.atZ (by omega) (h.valAt e))
    · obtain rfl : j = gm.succ.length := by omega
      rw [show (vals ++ [vS]).getD gm.succ.length undef = vS from by simp [List.getD, ← hvl],
        show (gm.succ ++ [row]).getD gm.succ.length [] = row from by simp [List.getD]]
      have := hat 0 vS rfl
      exact (hS.grownA hg this.1).setNe this.2
  · intro u hu g hug
    have := h.lt u (List.mem_cons_of_mem _ hu) g hug
    simp only [World.size_setCell]
    exact Nat.lt_of_lt_of_le this hg.size

/-- A store below the call's own changes nothing. -/
theorem GB.setFar (h : GB w B z v0 v1 v2 vals gm others) {n j : Nat} {u : Value} (hn : n < B) : GB (w.setCell ⟨n, j, none⟩ u) B z v0 v1 v2 vals gm others :=
  { box := by rw [heap_set_ne _ _ _ _ _ (by have := h.zB; omega)]; exact h.box
    zB := h.zB
    o := h.o.setNe (fun e => by have := h.o.ge _ e; omega)
    p := h.p.setNe (fun e => by have := h.p.ge _ e; omega)
    r := ownsRow_set_ne h.r (fun e => by have := (World.ownsRow.lt h.r _ e).1; omega)
    e := fun j hj => (h.e j hj).setNe (fun e => by have := (h.e j hj).ge _ e; omega)
    sep := h.sep
    lt := fun u hu g hg => by have := h.lt u hu g hg; rw [World.size_setCell]; exact this }

theorem OI.setFar {w : World} {B n j : Nat} {v u : Value} {l : List Int} (h : OI w B v l) (hn : n < B) : OI (w.setCell ⟨n, j, none⟩ u) B v l := h.setNe (fun e => by have := h.ge _ e; omega)

/-- A game that was built reads as a game. -/
theorem GB.is (h : GB w B z v0 v1 v2 vals gm others) (h0 : gm.owner.length ≤ maxN ∧ ∀ x ∈ gm.owner, I64 x) (h1 : gm.prio.length ≤ maxN ∧ ∀ x ∈ gm.prio, I64 x) (h2 : gm.succ.length ≤ maxN) (h3 : ∀ j, j < gm.succ.length → (gm.succ.getD j []).length ≤ maxN ∧ ∀ x ∈ gm.succ.getD j [], I64 x) :
    IsGame w (.agg #[v0, v1, v2]) gm := by
  refine ⟨_, _, _, rfl, h.o.is h0.1 h0.2, h.p.is h1.1 h1.2, fun j => vals.getD j undef, ownsRow_arr h.r h2 _ (fun j hj => ?_), fun j hj => (h.e j hj).is (h3 j hj).1 (h3 j hj).2⟩
  have : j < vals.length := by rw [h.vl]; exact hj
  rw [getD_lt _ _ _ this]; simp [this]

end

theorem ownsRow_slice {w : World} {b e sz n : Nat} {v : Value} {l : List Value} (h : w.ownsRow b e sz v n l) : ∃ ao cap, v = .slice ao n cap := by
  rcases h.2 with ⟨hv, h0⟩ | ⟨g, cap, cur, hv, hb, hg, _⟩
  · exact ⟨none, 0, by rw [hv, h0]⟩
  · exact ⟨_, cap, hv⟩

theorem OI_oneCell {w : World} {b : Nat} {v : Value} {l : List Int} (h : OI w b v l) : v.oneCell' = true := by
  obtain ⟨ao, cap, rfl⟩ := h.slice
  rfl

/-- 'append' of a row to rows of the call's own. -/
theorem app_row {ops : Array Oper} {rest : List Oper} {o : Oper} {a : Act} {Q : Exit → Act → World → Prop} {w : World} (hgd : o.guard = none) (s x : Operand) (u : Value)
    (ho : o.op = .call { callee := .builtin .append, args := #[s, x], argTypes := #[23, 23] })
    (base : Nat) (v : Value) (n : Nat) (l : List Value) (hown : w.ownsRow base 22 1 v n l) (hs : a.eval s = v) (m : Nat) (hm : m = w.heap.size) (hx : a.eval x = .slice (some ⟨m, 0, none⟩) 1 1) (hu : u.oneCell' = true)
    (hn : n < 5864062014000) (hbase : base ≤ w.heap.size)
    (h : ∀ v' w', w'.ownsRow base 22 1 v' (n + 1) (l ++ [u]) → w.grownBy w' v.ownBlock → Moved w v v' → wpList Try.prog ops Q rest (a.put o.dst v') w') :
    wpList Try.prog ops Q (o :: rest) a (w.alloc (.cells #[u] 22)) :=
  wpList_app1 hgd s x _ _ 24 _ u ho Try.underlying23 info_ints rfl base v n _ hs hown m hm hx hu (by omega) (by decide) hbase h

/-- 'append' of a number in a region that draws its order. -/
theorem wp_app_int {o : Oper} {a : Act} {K : Act → World → Prop} {Q : Exit → Act → World → Prop} (w : World) (s x : Operand) (b : Int)
    (ho : o.op = .call { callee := .builtin .append, args := #[s, x], argTypes := #[22, 22] })
    (base : Nat) (v : Value) (l : List Int) (hs : a.eval s = v) (hown : OI w base v l) (hx : a.eval x = .slice (some ⟨w.heap.size, 0, none⟩) 1 1)
    (hn : l.length < 17592186043904) (hbase : base ≤ w.heap.size)
    (h : ∀ v' w', OI w' base v' (l ++ [b]) → w.grownBy w' v.ownBlock → Moved w v v' → K (a.put o.dst v') w') :
    Oper.wp Try.prog o a (w.alloc (.cells #[.int .i64 b] 3)).drew K Q := by
  obtain ⟨i0, hi0, hz0, hz1, hz2⟩ := info_parts info_int
  refine wp_append_lies _ s x _ ho base _ i0 _ 1 8 Try.underlying22 hi0 hz0 hz1 hz2 rfl (by decide) v l.length _ hs ((World.ownsRow.alloc hown _).drew) ⟨w.heap.size, 0, none⟩ 1 1 [.int .i64 b] hx rfl (World.news_of_block (cs := #[.int .i64 b]) (t := 3) (fr := (0, 0)) (heap_alloc_new w _)) (by simp [Value.oneCell']) (by omega) (by simp only [maxLen]; omega) (by omega) (by simp; omega) (w.heap.size + 1) (by simp) ?_
  intro g cap w' h1 h2 h3 h4
  refine h _ _ (by unfold OI; simpa using h1) ⟨h2.os, h2.tape, h2.output, by have := h2.size; rw [drew_heap] at this; simp at this; omega, fun k hk hr => ?_⟩ (fun k hk => ?_)
  · rw [h2.block k (by rw [drew_heap]; simp; omega) hr]; exact heap_alloc_old w _ hk
  · obtain rfl : g = k := by simpa [Value.ownBlock] using hk
    rcases h3 with e | e
    · exact .inl e
    · exact .inr (by omega)

end Go.Proofs.Ytjhafakkadnfmaa
