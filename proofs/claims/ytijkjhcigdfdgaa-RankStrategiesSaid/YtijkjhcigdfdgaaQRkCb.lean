/- Games: the two Valid, Small, Greatest, Swap, Part, Solve; slices; rows of one's own; drawn regions. -/
import Derived.Test.YtijkjhcigdfdgaaQRkC
namespace Go.Proofs.Ytijkjhcigdfdgaa
open Go.RowKit
open Go Go.RowKit
open Go.RowKit Go.Maps Go.WideMaps

section
variable {g : Gm} {p : Int} {n : Nat}
theorem Fits.attr (F : Fits g p n) (hS : ∀ i, (g.succ.getD i []).length ≤ 1000) {t : List Bool} (ht : t.length = n) : Attr g p t (attQ g p t).inn (attQ g p t).mv := by
  subst ht
  exact attQ_attr g p t F.rg F.ne hS
end

section
variable {g : Gm} {p : Int} {n : Nat}
theorem atB_not {l : List Bool} {x : Int} (h0 : 0 ≤ x) (h1 : x < l.length) : atB (notL l) x = !atB l x := by
  unfold atB; exact notL_get l x.toNat (by omega)
end

section
variable {g : Gm} {p : Int} {n : Nat}
theorem notL_len (l : List Bool) : (notL l).length = l.length := by simp [notL]
end

section
variable {g : Gm} {p : Int} {n : Nat}
/-- What is outside an attractor is a trap. -/
theorem Fits.trap (F : Fits g p n) (hS : ∀ i, (g.succ.getD i []).length ≤ 1000) {t : List Bool} (ht : t.length = n) : trapB g p (notL (attQ g p t).inn) = true := by
  have A := F.attr hS ht
  have hl : (notL (attQ g p t).inn).length = n := by rw [notL_len, A.li, ht]
  rw [trapB_iff (by rw [hl]; exact F)]
  have hil : (attQ g p t).inn.length = n := by rw [A.li, ht]
  intro i hi hs
  rw [hl] at hi
  rw [notL_get _ _ (by omega)] at hs
  have hf : (attQ g p t).inn.getD i false = false := by simpa using hs
  have hat : ∀ x ∈ g.succ.getD i [], atB (attQ g p t).inn x = false → atB (notL (attQ g p t).inn) x = true := fun x hx hb => by
    have := F.rg i hi x hx
    rw [atB_not this.1 (by omega), hb]; rfl
  refine ⟨fun ho => ?_, fun ho x hx => hat x hx (A.cw i (by omega) ho hf x hx)⟩
  obtain ⟨x, hx, hb⟩ := A.ct i (by omega) ho hf
  exact ⟨x, hx, hat x hx hb⟩
end

/-- The numbers of the first k positions that are in. -/
def keptI (s : List Bool) (k : Nat) : List Int := ((List.range k).filter (fun i => s.getD i false)).map fun (i : Nat) => (i : Int)

/-- How many are in ahead of each of the first k. -/
def numI (s : List Bool) (k : Nat) : List Int := (List.range k).map fun v => ((keptI s v).length : Int)

/-- The successors that are in, by their new numbers. -/
def subI (s : List Bool) (l : List Int) : List Int := (l.filter (atB s)).map fun x => ((keptI s x.toNat).length : Int)

theorem keptI_succ (s : List Bool) (k : Nat) : keptI s (k + 1) = if s.getD k false then keptI s k ++ [(k : Int)] else keptI s k := by
  unfold keptI
  rw [List.range_succ, List.filter_append, List.map_append]
  by_cases h : s.getD k false = true
  · rw [List.filter_cons_of_pos (by exact h), if_pos h]; rfl
  · rw [List.filter_cons_of_neg (by exact h), if_neg h]; simp

theorem numI_succ (s : List Bool) (k : Nat) : numI s (k + 1) = numI s k ++ [((keptI s k).length : Int)] := by
  unfold numI; rw [List.range_succ, List.map_append]; rfl

theorem keptI_len (s : List Bool) (k : Nat) : (keptI s k).length ≤ k := by
  unfold keptI
  rw [List.length_map]
  exact Nat.le_trans (List.length_filter_le _ _) (by simp)

theorem numI_len (s : List Bool) (k : Nat) : (numI s k).length = k := by simp [numI]

theorem numI_get (s : List Bool) (k v : Nat) (h : v < k) : (numI s k).getD v 0 = ((keptI s v).length : Int) := by simp [numI, h]

theorem keptI_mem {s : List Bool} {k : Nat} {x : Int} (h : x ∈ keptI s k) : ∃ v : Nat, x = v ∧ v < k ∧ s.getD v false = true := by
  unfold keptI at h
  obtain ⟨v, hv, rfl⟩ := List.mem_map.1 h
  rw [List.mem_filter, List.mem_range] at hv
  exact ⟨v, rfl, hv.1, hv.2⟩

theorem subI_snoc (s : List Bool) (l : List Int) (x : Int) : subI s (l ++ [x]) = if atB s x then subI s l ++ [((keptI s x.toNat).length : Int)] else subI s l := by
  unfold subI
  rw [List.filter_append, List.map_append]
  cases h : atB s x <;> simp [h]

theorem subI_len (s : List Bool) (l : List Int) : (subI s l).length ≤ l.length := by
  unfold subI; rw [List.length_map]; exact List.length_filter_le _ _

/-- The part of the first positions kept. -/
def partG (g : Gm) (s : List Bool) (ks : List Int) : Gm := ⟨ks.map fun v => g.owner.getD v.toNat 0, ks.map fun v => g.prio.getD v.toNat 0, ks.map fun v => subI s (g.succ.getD v.toNat [])⟩

/-- All kept positions have a successor that is kept. -/
def partOK (g : Gm) (s : List Bool) (ks : List Int) : Bool := ks.all fun v => !(subI s (g.succ.getD v.toNat [])).isEmpty

/-- What Part returns. -/
def partR (g : Gm) (s : List Bool) : Gm × List Int :=
  if validB g && decide (s.length = g.owner.length) && partOK g s (keptI s s.length) then (partG g s (keptI s s.length), keptI s s.length) else (⟨[], [], []⟩, [])

theorem partG_snoc (g : Gm) (s : List Bool) (ks : List Int) (v : Int) : partG g s (ks ++ [v]) = ⟨(partG g s ks).owner ++ [g.owner.getD v.toNat 0], (partG g s ks).prio ++ [g.prio.getD v.toNat 0], (partG g s ks).succ ++ [subI s (g.succ.getD v.toNat [])]⟩ := by
  simp [partG]

/-- Values that own different blocks. -/
def Sep (l : List Value) : Prop := l.Pairwise Apart

theorem apart_none {v u : Value} (h : v.ownBlock = none) : Apart v u := fun g hg => by rw [h] at hg; cases hg

theorem Sep.get {l : List Value} (h : Sep l) {i j : Nat} (hij : i ≠ j) {u v : Value} (hi : l[i]? = some u) (hj : l[j]? = some v) : Apart u v := by
  obtain ⟨hi', rfl⟩ := List.getElem?_eq_some_iff.1 hi
  obtain ⟨hj', rfl⟩ := List.getElem?_eq_some_iff.1 hj
  have h2 := List.pairwise_iff_getElem.1 h
  rcases Nat.lt_or_ge i j with hlt | hge
  · exact h2 i j hi' hj' hlt
  · exact (h2 j i hj' hi' (by omega)).symm

theorem Sep.set {l : List Value} (h : Sep l) {w : World} {i : Nat} {v v' : Value} (hi : l[i]? = some v) (hm : Moved w v v') (hlt : ∀ u ∈ l, ∀ g, u.ownBlock = some g → g < w.heap.size) : Sep (l.set i v') := by
  refine List.pairwise_iff_getElem.2 fun a b ha hb hab => ?_
  rw [List.length_set] at ha hb
  rw [List.getElem_set, List.getElem_set]
  have hget : ∀ a (ha : a < l.length), l[a]? = some l[a] := fun a ha => by simp
  split
  · rename_i e
    subst e
    rw [if_neg (by omega)]
    exact ((h.get (by omega) (hget b hb) hi).moved hm (hlt _ (List.getElem_mem hb))).symm
  · split
    · rename_i e
      subst e
      exact (h.get (by omega) (hget a ha) hi).moved hm (hlt _ (List.getElem_mem ha))
    · exact h.get (by omega) (hget a ha) (hget b hb)

/-- A value in new memory lies apart. -/
theorem Sep.cons {l : List Value} (h : Sep l) {w : World} {v : Value} (hv : ∀ g, v.ownBlock = some g → w.heap.size ≤ g) (hlt : ∀ u ∈ l, ∀ g, u.ownBlock = some g → g < w.heap.size) : Sep (v :: l) :=
  List.pairwise_cons.2 ⟨fun u hu => (Apart.of_lt (hlt u hu) hv).symm, h⟩

theorem Sep.sub {l l' : List Value} (h : Sep l) (hs : l'.Sublist l) : Sep l' := h.sublist hs

theorem Sep.perm {l l' : List Value} (h : Sep l) (hp : l.Perm l') : Sep l' := (hp.pairwise_iff (fun h => Apart.symm h)).1 h

/-- The block of a box, told as a value. -/
def boxV (z : Nat) : Value := .slice (some ⟨z, 0, none⟩) 0 0

/-- A game that is built in block z; others: what the call owns besides. -/
structure GB (w : World) (B z : Nat) (v0 v1 v2 : Value) (vals : List Value) (gm : Gm) (others : List Value) : Prop where
  box : w.heap[z]? = some (.cells #[v0, v1, v2] 25 (0, 0))
  zB : B ≤ z
  o : OI w B v0 gm.owner
  p : OI w B v1 gm.prio
  r : w.ownsRow B 22 1 v2 gm.succ.length vals
  e : ∀ j, j < gm.succ.length → OI w B (vals.getD j undef) (gm.succ.getD j [])
  sep : Sep (boxV z :: v0 :: v1 :: v2 :: (vals ++ others))
  lt : ∀ u ∈ others, ∀ g, u.ownBlock = some g → g < w.heap.size

section
variable {w w' : World} {B z : Nat} {v0 v1 v2 : Value} {vals others : List Value} {gm : Gm}
theorem GB.vl (h : GB w B z v0 v1 v2 vals gm others) : vals.length = gm.succ.length := by have := h.r.1; simpa using this
end

section
variable {w w' : World} {B z : Nat} {v0 v1 v2 : Value} {vals others : List Value} {gm : Gm}
theorem GB.lts (h : GB w B z v0 v1 v2 vals gm others) : ∀ u ∈ boxV z :: v0 :: v1 :: v2 :: (vals ++ others), ∀ g, u.ownBlock = some g → g < w.heap.size := by
  intro u hu g hg
  simp only [List.mem_cons, List.mem_append] at hu
  rcases hu with rfl | rfl | rfl | rfl | hu | hu
  · cases hg; exact (Array.getElem?_eq_some_iff.1 h.box).1
  · exact h.o.lt' g hg
  · exact h.p.lt' g hg
  · exact (World.ownsRow.lt h.r g hg).2
  · obtain ⟨j, hj, rfl⟩ := List.getElem_of_mem hu
    have := (h.e j (by rw [← h.vl]; exact hj)).lt' g
    rw [getD_lt _ _ _ hj] at this
    exact this hg
  · exact h.lt u hu g hg
end

section
variable {w w' : World} {B z : Nat} {v0 v1 v2 : Value} {vals others : List Value} {gm : Gm}
theorem GB.valAt (h : GB w B z v0 v1 v2 vals gm others) {j : Nat} (hj : j < gm.succ.length) : (boxV z :: v0 :: v1 :: v2 :: (vals ++ others))[j + 4]? = some (vals.getD j undef) := by
  have hl : j < vals.length := by rw [h.vl]; exact hj
  simp only [List.getElem?_cons_succ]
  rw [List.getElem?_append_left hl, getD_lt _ _ _ hl]
  simp [hl]
end

section
variable {w w' : World} {B z : Nat} {v0 v1 v2 : Value} {vals others : List Value} {gm : Gm}
theorem GB.otherAt (h : GB w B z v0 v1 v2 vals gm others) {i : Nat} {u : Value} (hi : others[i]? = some u) : (boxV z :: v0 :: v1 :: v2 :: (vals ++ others))[gm.succ.length + i + 4]? = some u := by
  simp only [List.getElem?_cons_succ]
  rw [List.getElem?_append_right (by rw [h.vl]; omega), h.vl, Nat.add_sub_cancel_left]
  exact hi
end

section
variable {w w' : World} {B z : Nat} {v0 v1 v2 : Value} {vals others : List Value} {gm : Gm}
theorem ownsRow_set_ne {w : World} {base e size n g j : Nat} {v u : Value} {xs : List Value} (h : w.ownsRow base e size v n xs) (hne : v.ownBlock ≠ some g) : (w.setCell ⟨g, j, none⟩ u).ownsRow base e size v n xs :=
  ownsRow_only (S := fun k => k = g) h ((Only.of_grown (grown_set w g j u)).mono (fun k _ hk => by cases hk; rfl)) (fun k hk e => hne (by rw [hk, e]))
end

section
variable {w w' : World} {B z : Nat} {v0 v1 v2 : Value} {vals others : List Value} {gm : Gm}
theorem apart_box {v : Value} {z : Nat} (h : Apart (boxV z) v) : v.ownBlock ≠ some z := fun e => h z rfl e
end

section
variable {w w' : World} {B z : Nat} {v0 v1 v2 : Value} {vals others : List Value} {gm : Gm}
/-- What else the call owns is as it was, when other values of the list grow. -/
theorem OI.grownA {w w' : World} {base : Nat} {v u : Value} {l : List Int} (h : OI w base v l) (hg : w.grownBy w' u.ownBlock) (ha : Apart v u) : OI w' base v l := OI.grown h hg ha.ne
end

section
variable {w w' : World} {B z : Nat} {v0 v1 v2 : Value} {vals others : List Value} {gm : Gm}
theorem OB.grownA {w w' : World} {base : Nat} {v u : Value} {l : List Bool} (h : OB w base v l) (hg : w.grownBy w' u.ownBlock) (ha : Apart v u) : OB w' base v l := OB.grown h hg ha.ne
end

section
variable {w w' : World} {B z : Nat} {v0 v1 v2 : Value} {vals others : List Value} {gm : Gm}
/-- Another row of the call's grows. -/
theorem GB.other (h : GB w B z v0 v1 v2 vals gm others) {i : Nat} {u u' : Value} (hi : others[i]? = some u) (hg : w.grownBy w' u.ownBlock) (hm : Moved w u u') (hu : ∀ g, u'.ownBlock = some g → g < w'.heap.size) : GB w' B z v0 v1 v2 vals gm (others.set i u') := by
  have hA : ∀ {k : Nat} {x : Value}, k < 4 + gm.succ.length → (boxV z :: v0 :: v1 :: v2 :: (vals ++ others))[k]? = some x → Apart x u := fun {k x} hk hx => h.sep.get (by omega) hx (h.otherAt hi)
  have hzb : Apart (boxV z) u := hA (k := 0) (by omega) rfl
  refine { box := ?_, zB := h.zB, o := h.o.grownA hg (hA (k := 1) (by omega) rfl), p := h.p.grownA hg (hA (k := 2) (by omega) rfl), r := ?_, e := ?_, sep := ?_, lt := ?_ }
  · rw [hg.block z (Array.getElem?_eq_some_iff.1 h.box).1 (fun e => hzb z rfl e.symm)]; exact h.box
  · exact World.ownsRow.kept h.r hg (hA (k := 3) (by omega) rfl).ne
  · intro j hj
    exact (h.e j hj).grownA hg (hA (k := j + 4) (by omega) (h.valAt hj))
  · have := h.sep.set (h.otherAt hi) hm h.lts
    have e : (boxV z :: v0 :: v1 :: v2 :: (vals ++ others)).set (gm.succ.length + i + 4) u' = boxV z :: v0 :: v1 :: v2 :: (vals ++ others.set i u') := by
      simp only [List.set_cons_succ]
      rw [List.set_append_right _ _ (by rw [h.vl]; omega), h.vl, Nat.add_sub_cancel_left]
    rwa [e] at this
  · intro x hx g hxg
    rcases List.mem_or_eq_of_mem_set hx with hx | rfl
    · exact Nat.lt_of_lt_of_le (h.lt x hx g hxg) hg.size
    · exact hu g hxg
end

section
variable {w w' : World} {B z : Nat} {v0 v1 v2 : Value} {vals others : List Value} {gm : Gm}
/-- New memory changes nothing. -/
theorem GB.below (h : GB w B z v0 v1 v2 vals gm others) (hb : Below w.heap.size w w') : GB w' B z v0 v1 v2 vals gm others :=
  { box := by rw [hb.block z (Array.getElem?_eq_some_iff.1 h.box).1]; exact h.box
    zB := h.zB
    o := h.o.below hb
    p := h.p.below hb
    r := World.ownsRow.kept h.r (below_grown hb) (by cases v2.ownBlock <;> simp)
    e := fun j hj => (h.e j hj).below hb
    sep := h.sep
    lt := fun u hu g hg => Nat.lt_of_lt_of_le (h.lt u hu g hg) hb.size }
end

section
variable {w w' : World} {B z : Nat} {v0 v1 v2 : Value} {vals others : List Value} {gm : Gm}
/-- A new value among the others. -/
theorem GB.add (h : GB w B z v0 v1 v2 vals gm others) {u : Value} (hu : u.ownBlock = none) : GB w B z v0 v1 v2 vals gm (u :: others) :=
  { h with
    sep := by
      have : Sep (u :: (boxV z :: v0 :: v1 :: v2 :: (vals ++ others))) := List.pairwise_cons.2 ⟨fun x _ => apart_none hu, h.sep⟩
      exact this.perm (List.perm_middle (l₁ := boxV z :: v0 :: v1 :: v2 :: vals) (a := u) (l₂ := others)).symm
    lt := fun x hx g hg => by
      rcases List.mem_cons.1 hx with rfl | hx
      · rw [hu] at hg; cases hg
      · exact h.lt x hx g hg }
end

section
variable {w w' : World} {B z : Nat} {v0 v1 v2 : Value} {vals others : List Value} {gm : Gm}
/-- Without one of the others. -/
theorem GB.drop {u : Value} (h : GB w B z v0 v1 v2 vals gm (u :: others)) : GB w B z v0 v1 v2 vals gm others :=
  { h with
    sep := h.sep.sub (by simp)
    lt := fun x hx => h.lt x (List.mem_cons_of_mem _ hx) }
end

section
variable {w w' : World} {B z : Nat} {v0 v1 v2 : Value} {vals others : List Value} {gm : Gm}
theorem GB.apart (h : GB w B z v0 v1 v2 vals gm others) {i j : Nat} (hij : i ≠ j) {u v : Value} (hi : others[i]? = some u) (hj : others[j]? = some v) : Apart u v :=
  h.sep.get (by omega) (h.otherAt hi) (h.otherAt hj)
end

section
variable {w w' : World} {B z : Nat} {v0 v1 v2 : Value} {vals others : List Value} {gm : Gm}
/-- An empty game in a new block. -/
theorem GB.start {B : Nat} {others : List Value} {w : World} (hB : B ≤ w.heap.size) (hs : Sep others) (hl : ∀ u ∈ others, ∀ g, u.ownBlock = some g → g < w.heap.size) :
    GB (w.alloc (.cells #[.slice none 0 0, .slice none 0 0, .slice none 0 0] 25)) B w.heap.size (.slice none 0 0) (.slice none 0 0) (.slice none 0 0) [] ⟨[], [], []⟩ others :=
  { box := heap_alloc_new _ _
    zB := hB
    o := OI_nil _ _
    p := OI_nil _ _
    r := World.ownsRow_nil _ _ _ _
    e := fun j hj => absurd hj (by simp)
    sep := by
      refine Sep.cons (w := w) (l := .slice none 0 0 :: .slice none 0 0 :: .slice none 0 0 :: ([] ++ others)) ?_ (fun g hg => by cases hg; exact Nat.le_refl _) ?_
      · exact List.pairwise_cons.2 ⟨fun x _ => apart_none rfl, List.pairwise_cons.2 ⟨fun x _ => apart_none rfl, List.pairwise_cons.2 ⟨fun x _ => apart_none rfl, hs⟩⟩⟩
      · intro u hu g hg
        simp only [List.mem_cons, List.nil_append] at hu
        rcases hu with rfl | rfl | rfl | hu
        · cases hg
        · cases hg
        · cases hg
        · exact hl u hu g hg
    lt := fun u hu g hg => by have := hl u hu g hg; simp; omega }
end

section
variable {w w' : World} {B z : Nat} {v0 v1 v2 : Value} {vals others : List Value} {gm : Gm}
/-- What a step of the game leaves of the rest. -/
structure Kept (B : Nat) (others : List Value) (w w' : World) : Prop where
  bl : Below B w w'
  oi : ∀ u ∈ others, ∀ b l, OI w b u l → OI w' b u l
end

section
variable {w w' : World} {B z : Nat} {v0 v1 v2 : Value} {vals others : List Value} {gm : Gm}
theorem GB.atO (h : GB w B z v0 v1 v2 vals gm others) {k : Nat} {x : Value} (hk : k ≠ 1) (hx : (boxV z :: v0 :: v1 :: v2 :: (vals ++ others))[k]? = some x) : Apart x v0 := h.sep.get hk hx rfl
end

section
variable {w w' : World} {B z : Nat} {v0 v1 v2 : Value} {vals others : List Value} {gm : Gm}
theorem GB.atP (h : GB w B z v0 v1 v2 vals gm others) {k : Nat} {x : Value} (hk : k ≠ 2) (hx : (boxV z :: v0 :: v1 :: v2 :: (vals ++ others))[k]? = some x) : Apart x v1 := h.sep.get hk hx rfl
end

section
variable {w w' : World} {B z : Nat} {v0 v1 v2 : Value} {vals others : List Value} {gm : Gm}
theorem GB.atR (h : GB w B z v0 v1 v2 vals gm others) {k : Nat} {x : Value} (hk : k ≠ 3) (hx : (boxV z :: v0 :: v1 :: v2 :: (vals ++ others))[k]? = some x) : Apart x v2 := h.sep.get hk hx rfl
end

section
variable {w w' : World} {B z : Nat} {v0 v1 v2 : Value} {vals others : List Value} {gm : Gm}
theorem GB.atZ (h : GB w B z v0 v1 v2 vals gm others) {k : Nat} {x : Value} (hk : k ≠ 0) (hx : (boxV z :: v0 :: v1 :: v2 :: (vals ++ others))[k]? = some x) : x.ownBlock ≠ some z := apart_box (h.sep.get (Ne.symm hk) rfl hx)
end

section
variable {w w' : World} {B z : Nat} {v0 v1 v2 : Value} {vals others : List Value} {gm : Gm}
theorem GB.zlt (h : GB w B z v0 v1 v2 vals gm others) : z < w.heap.size := (Array.getElem?_eq_some_iff.1 h.box).1
end

section
variable {w w' : World} {B z : Nat} {v0 v1 v2 : Value} {vals others : List Value} {gm : Gm}
theorem OI.setNe {w : World} {base g j : Nat} {v u : Value} {l : List Int} (h : OI w base v l) (hne : v.ownBlock ≠ some g) : OI (w.setCell ⟨g, j, none⟩ u) base v l := ownsRow_set_ne h hne
end

section
variable {w w' : World} {B z : Nat} {v0 v1 v2 : Value} {vals others : List Value} {gm : Gm}
theorem kept_of {w w' : World} {B z j : Nat} {v x : Value} {others : List Value} (hg : w.grownBy w' v.ownBlock) (hvB : ∀ k, v.ownBlock = some k → B ≤ k) (hzB : B ≤ z) (hB : B ≤ w.heap.size)
    (ho : ∀ u ∈ others, Apart u v ∧ u.ownBlock ≠ some z) : Kept B others w (w'.setCell ⟨z, j, none⟩ x) where
  bl := ((Only.of_grown hg).below B (fun k hk => hvB k hk) hB).setCell hzB _
  oi := fun u hu _ _ h => OI.setNe (h.grownA hg (ho u hu).1) (ho u hu).2
end

section
variable {w w' : World} {B z : Nat} {v0 v1 v2 : Value} {vals others : List Value} {gm : Gm}
/-- The owners grow. -/
theorem GB.stepO (h : GB w B z v0 v1 v2 vals gm others) {v0' : Value} {x : Int} (ho : OI w' B v0' (gm.owner ++ [x])) (hg : w.grownBy w' v0.ownBlock) (hm : Moved w v0 v0') (hB : B ≤ w.heap.size) :
    w'.heap[z]? = some (.cells #[v0, v1, v2] 25 (0, 0)) ∧ GB (w'.setCell ⟨z, 0, none⟩ v0') B z v0' v1 v2 vals ⟨gm.owner ++ [x], gm.prio, gm.succ⟩ others ∧ Kept B others w (w'.setCell ⟨z, 0, none⟩ v0') := by
  have hzne : v0.ownBlock ≠ some z := h.atZ (k := 1) (by omega) rfl
  have hbox : w'.heap[z]? = some (.cells #[v0, v1, v2] 25 (0, 0)) := by rw [hg.block z h.zlt (Ne.symm hzne)]; exact h.box
  have hoth : ∀ u ∈ others, Apart u v0 ∧ u.ownBlock ≠ some z := fun u hu => by
    obtain ⟨i, hi, rfl⟩ := List.getElem_of_mem hu
    have e := h.otherAt (i := i) (u := others[i]) (by simp [hi])
    exact ⟨h.atO (by omega) e, h.atZ (by omega) e⟩
  have hsep : Sep (boxV z :: v0' :: v1 :: v2 :: (vals ++ others)) := h.sep.set (i := 1) rfl hm h.lts
  refine ⟨hbox, { box := heap_setCell_same w' z 0 _ _ v0' hbox, zB := h.zB, o := ?_, p := ?_, r := ?_, e := ?_, sep := hsep, lt := ?_ }, kept_of hg h.o.ge h.zB hB hoth⟩
  · exact ho.setNe (apart_box (hsep.get (i := 0) (j := 1) (by omega) rfl rfl))
  · exact (h.p.grownA hg (h.atO (k := 2) (by omega) rfl)).setNe (h.atZ (k := 2) (by omega) rfl)
  · exact ownsRow_set_ne (World.ownsRow.kept h.r hg (h.atO (k := 3) (by omega) rfl).ne) (h.atZ (k := 3) (by omega) rfl)
  · intro j hj
    exact ((h.e j hj).grownA hg (h.atO (by omega) (h.valAt hj))).setNe (h.atZ (by omega) (h.valAt hj))
  · intro u hu g hug
    have := h.lt u hu g hug
    simp only [World.size_setCell]
    exact Nat.lt_of_lt_of_le this hg.size
end

section
variable {w w' : World} {B z : Nat} {v0 v1 v2 : Value} {vals others : List Value} {gm : Gm}
/-- The priorities grow. -/
theorem GB.stepP (h : GB w B z v0 v1 v2 vals gm others) {v1' : Value} {x : Int} (ho : OI w' B v1' (gm.prio ++ [x])) (hg : w.grownBy w' v1.ownBlock) (hm : Moved w v1 v1') (hB : B ≤ w.heap.size) :
    w'.heap[z]? = some (.cells #[v0, v1, v2] 25 (0, 0)) ∧ GB (w'.setCell ⟨z, 1, none⟩ v1') B z v0 v1' v2 vals ⟨gm.owner, gm.prio ++ [x], gm.succ⟩ others ∧ Kept B others w (w'.setCell ⟨z, 1, none⟩ v1') := by
  have hzne : v1.ownBlock ≠ some z := h.atZ (k := 2) (by omega) rfl
  have hbox : w'.heap[z]? = some (.cells #[v0, v1, v2] 25 (0, 0)) := by rw [hg.block z h.zlt (Ne.symm hzne)]; exact h.box
  have hoth : ∀ u ∈ others, Apart u v1 ∧ u.ownBlock ≠ some z := fun u hu => by
    obtain ⟨i, hi, rfl⟩ := List.getElem_of_mem hu
    have e := h.otherAt (i := i) (u := others[i]) (by simp [hi])
    exact ⟨h.atP (by omega) e, h.atZ (by omega) e⟩
  have hsep : Sep (boxV z :: v0 :: v1' :: v2 :: (vals ++ others)) := h.sep.set (i := 2) rfl hm h.lts
  refine ⟨hbox, { box := heap_setCell_same w' z 1 _ _ v1' hbox, zB := h.zB, o := ?_, p := ?_, r := ?_, e := ?_, sep := hsep, lt := ?_ }, kept_of hg h.p.ge h.zB hB hoth⟩
  · exact (h.o.grownA hg (h.atP (k := 1) (by omega) rfl)).setNe (h.atZ (k := 1) (by omega) rfl)
  · exact ho.setNe (apart_box (hsep.get (i := 0) (j := 2) (by omega) rfl rfl))
  · exact ownsRow_set_ne (World.ownsRow.kept h.r hg (h.atP (k := 3) (by omega) rfl).ne) (h.atZ (k := 3) (by omega) rfl)
  · intro j hj
    exact ((h.e j hj).grownA hg (h.atP (by omega) (h.valAt hj))).setNe (h.atZ (by omega) (h.valAt hj))
  · intro u hu g hug
    have := h.lt u hu g hug
    simp only [World.size_setCell]
    exact Nat.lt_of_lt_of_le this hg.size
end

section
variable {w w' : World} {B z : Nat} {v0 v1 v2 : Value} {vals others : List Value} {gm : Gm}
/-- A row of successors is appended: it was the first of the others. -/
theorem GB.stepR {vS : Value} {row : List Int} (h : GB w B z v0 v1 v2 vals gm (vS :: others)) (hS : OI w B vS row) {v2' : Value} (ho : w'.ownsRow B 22 1 v2' (gm.succ.length + 1) (vals ++ [vS])) (hg : w.grownBy w' v2.ownBlock) (hm : Moved w v2 v2') (hB : B ≤ w.heap.size) :
    w'.heap[z]? = some (.cells #[v0, v1, v2] 25 (0, 0)) ∧ GB (w'.setCell ⟨z, 2, none⟩ v2') B z v0 v1 v2' (vals ++ [vS]) ⟨gm.owner, gm.prio, gm.succ ++ [row]⟩ others ∧ Kept B others w (w'.setCell ⟨z, 2, none⟩ v2') := by
  have hzne : v2.ownBlock ≠ some z := h.atZ (k := 3) (by omega) rfl
  have hbox : w'.heap[z]? = some (.cells #[v0, v1, v2] 25 (0, 0)) := by rw [hg.block z h.zlt (Ne.symm hzne)]; exact h.box
  have hat : ∀ i u, (vS :: others)[i]? = some u → Apart u v2 ∧ u.ownBlock ≠ some z := fun i u hi => ⟨h.atR (by omega) (h.otherAt hi), h.atZ (by omega) (h.otherAt hi)⟩
  have hoth : ∀ u ∈ others, Apart u v2 ∧ u.ownBlock ≠ some z := fun u hu => by
    obtain ⟨i, hi, rfl⟩ := List.getElem_of_mem hu
    exact hat (i + 1) _ (by simp [hi])
  have hsep : Sep (boxV z :: v0 :: v1 :: v2' :: (vals ++ vS :: others)) := h.sep.set (i := 3) rfl hm h.lts
  have hvl := h.vl
  refine ⟨hbox, { box := heap_setCell_same w' z 2 _ _ v2' hbox, zB := h.zB, o := ?_, p := ?_, r := ?_, e := ?_, sep := by simpa using hsep, lt := ?_ }, kept_of hg (fun k hk => (World.ownsRow.lt h.r k hk).1) h.zB hB hoth⟩
  · exact (h.o.grownA hg (h.atR (k := 1) (by omega) rfl)).setNe (h.atZ (k := 1) (by omega) rfl)
  · exact (h.p.grownA hg (h.atR (k := 2) (by omega) rfl)).setNe (h.atZ (k := 2) (by omega) rfl)
  · simp only [List.length_append, List.length_singleton]
    exact ownsRow_set_ne ho (apart_box (hsep.get (i := 0) (j := 3) (by omega) rfl rfl))
  · intro j hj
    simp only [List.length_append, List.length_singleton] at hj
    by_cases e : j < gm.succ.length
    · rw [show (vals ++ [vS]).getD j undef = vals.getD j undef from by simp [List.getD, List.getElem?_append_left (show j < vals.length by omega)],
        show (gm.succ ++ [row]).getD j [] = gm.succ.getD j [] from by simp [List.getD, List.getElem?_append_left e]]
      exact ((h.e j e).grownA hg (h.atR (by omega) (h.valAt e))).setNe (h.atZ (by omega) (h.valAt e))
    · obtain rfl : j = gm.succ.length := by omega
      rw [show (vals ++ [vS]).getD gm.succ.length undef = vS from by simp [List.getD, ← hvl],
        show (gm.succ ++ [row]).getD gm.succ.length [] = row from by simp [List.getD]]
      have := hat 0 vS rfl
      exact (hS.grownA hg this.1).setNe this.2
  · intro u hu g hug
    have := h.lt u (List.mem_cons_of_mem _ hu) g hug
    simp only [World.size_setCell]
    exact Nat.lt_of_lt_of_le this hg.size
end

section
variable {w w' : World} {B z : Nat} {v0 v1 v2 : Value} {vals others : List Value} {gm : Gm}
/-- A store below the call's own changes nothing. -/
theorem GB.setFar (h : GB w B z v0 v1 v2 vals gm others) {n j : Nat} {u : Value} (hn : n < B) : GB (w.setCell ⟨n, j, none⟩ u) B z v0 v1 v2 vals gm others :=
  { box := by rw [heap_set_ne _ _ _ _ _ (by have := h.zB; omega)]; exact h.box
    zB := h.zB
    o := h.o.setNe (fun e => by have := h.o.ge _ e; omega)
    p := h.p.setNe (fun e => by have := h.p.ge _ e; omega)
    r := ownsRow_set_ne h.r (fun e => by have := (World.ownsRow.lt h.r _ e).1; omega)
    e := fun j hj => (h.e j hj).setNe (fun e => by have := (h.e j hj).ge _ e; omega)
    sep := h.sep
    lt := fun u hu g hg => by have := h.lt u hu g hg; rw [World.size_setCell]; exact this }
end

section
variable {w w' : World} {B z : Nat} {v0 v1 v2 : Value} {vals others : List Value} {gm : Gm}
theorem OI.setFar {w : World} {B n j : Nat} {v u : Value} {l : List Int} (h : OI w B v l) (hn : n < B) : OI (w.setCell ⟨n, j, none⟩ u) B v l := h.setNe (fun e => by have := h.ge _ e; omega)
end

section
variable {w w' : World} {B z : Nat} {v0 v1 v2 : Value} {vals others : List Value} {gm : Gm}
/-- A game that was built reads as a game. -/
theorem GB.is (h : GB w B z v0 v1 v2 vals gm others) (h0 : gm.owner.length ≤ maxN ∧ ∀ x ∈ gm.owner, I64 x) (h1 : gm.prio.length ≤ maxN ∧ ∀ x ∈ gm.prio, I64 x) (h2 : gm.succ.length ≤ maxN) (h3 : ∀ j, j < gm.succ.length → (gm.succ.getD j []).length ≤ maxN ∧ ∀ x ∈ gm.succ.getD j [], I64 x) :
    IsGame w (.agg #[v0, v1, v2]) gm := by
  refine ⟨_, _, _, rfl, h.o.is h0.1 h0.2, h.p.is h1.1 h1.2, fun j => vals.getD j undef, ownsRow_arr h.r h2 _ (fun j hj => ?_), fun j hj => (h.e j hj).is (h3 j hj).1 (h3 j hj).2⟩
  have : j < vals.length := by rw [h.vl]; exact hj
  rw [getD_lt _ _ _ this]; simp [this]
end

theorem ownsRow_slice {w : World} {b e sz n : Nat} {v : Value} {l : List Value} (h : w.ownsRow b e sz v n l) : ∃ ao cap, v = .slice ao n cap := by
  rcases h.2 with ⟨hv, h0⟩ | ⟨g, cap, cur, hv, hb, hg, _⟩
  · exact ⟨none, 0, by rw [hv, h0]⟩
  · exact ⟨_, cap, hv⟩

theorem OI_oneCell {w : World} {b : Nat} {v : Value} {l : List Int} (h : OI w b v l) : v.oneCell' = true := by
  obtain ⟨ao, cap, rfl⟩ := h.slice
  rfl

/-- 'append' of a row to rows of the call's own. -/
theorem app_row {ops : Array Oper} {rest : List Oper} {o : Oper} {a : Act} {Q : Exit → Act → World → Prop} {w : World} (hgd : o.guard = none) (s x : Operand) (u : Value)
    (ho : o.op = .call { callee := .builtin .append, args := #[s, x], argTypes := #[23, 23] })
    (base : Nat) (v : Value) (n : Nat) (l : List Value) (hown : w.ownsRow base 22 1 v n l) (hs : a.eval s = v) (m : Nat) (hm : m = w.heap.size) (hx : a.eval x = .slice (some ⟨m, 0, none⟩) 1 1) (hu : u.oneCell' = true)
    (hn : n < 5864062014000) (hbase : base ≤ w.heap.size)
    (h : ∀ v' w', w'.ownsRow base 22 1 v' (n + 1) (l ++ [u]) → w.grownBy w' v.ownBlock → Moved w v v' → wpList Try.prog ops Q rest (a.put o.dst v') w') :
    wpList Try.prog ops Q (o :: rest) a (w.alloc (.cells #[u] 22)) :=
  wpList_app1 hgd s x _ _ 24 _ u ho Try.underlying23 info_ints rfl base v n _ hs hown m hm hx hu (by omega) (by decide) hbase h

/-- 'append' of a number in a region that draws its order. -/
theorem wp_app_int {o : Oper} {a : Act} {K : Act → World → Prop} {Q : Exit → Act → World → Prop} (w : World) (s x : Operand) (b : Int)
    (ho : o.op = .call { callee := .builtin .append, args := #[s, x], argTypes := #[22, 22] })
    (base : Nat) (v : Value) (l : List Int) (hs : a.eval s = v) (hown : OI w base v l) (hx : a.eval x = .slice (some ⟨w.heap.size, 0, none⟩) 1 1)
    (hn : l.length < 17592186043904) (hbase : base ≤ w.heap.size)
    (h : ∀ v' w', OI w' base v' (l ++ [b]) → w.grownBy w' v.ownBlock → Moved w v v' → K (a.put o.dst v') w') :
    Oper.wp Try.prog o a (w.alloc (.cells #[.int .i64 b] 3)).drew K Q := by
  obtain ⟨i0, hi0, hz0, hz1, hz2⟩ := info_parts info_int
  refine wp_append_lies _ s x _ ho base _ i0 _ 1 8 Try.underlying22 hi0 hz0 hz1 hz2 rfl (by decide) v l.length _ hs ((World.ownsRow.alloc hown _).drew) ⟨w.heap.size, 0, none⟩ 1 1 [.int .i64 b] hx rfl (World.news_of_block (cs := #[.int .i64 b]) (t := 3) (fr := (0, 0)) (heap_alloc_new w _)) (by simp [Value.oneCell']) (by omega) (by simp only [maxLen]; omega) (by omega) (by simp; omega) (w.heap.size + 1) (by simp) ?_
  intro g cap w' h1 h2 h3 h4
  refine h _ _ (by unfold OI; simpa using h1) ⟨h2.os, h2.tape, h2.output, by have := h2.size; rw [drew_heap] at this; simp at this; omega, fun k hk hr => ?_⟩ (fun k hk => ?_)
  · rw [h2.block k (by rw [drew_heap]; simp; omega) hr]; exact heap_alloc_old w _ hk
  · obtain rfl : g = k := by simpa [Value.ownBlock] using hk
    rcases h3 with e | e
    · exact .inl e
    · exact .inr (by omega)

/-- A game and a list of numbers in new memory. -/
def GameInts (gm : Gm) (l : List Int) (w : World) (e : Ending) (w' : World) : Prop := ∃ vg vl, e = .returned (.tuple #[vg, vl]) ∧ IsGame w' vg gm ∧ IsInts w' vl l ∧ Below w.heap.size w w'

/-- The frame of Part: the box of its game, and the cell of its result. -/
structure Fr (w wr : World) (cs : Array Value) : Prop where
  bx : Boxed w wr cs
  rc : wr.heap[w.heap.size + 1]? = some (.cells #[.slice none 0 0, .slice none 0 0, .slice none 0 0] 25 (0, 0))

theorem Fr.lt {w wr : World} {cs : Array Value} (h : Fr w wr cs) : w.heap.size + 2 ≤ wr.heap.size := (Array.getElem?_eq_some_iff.1 h.rc).1

theorem Fr.step {w wr w' : World} {cs : Array Value} (h : Fr w wr cs) (hb : Below (w.heap.size + 2) wr w') : Fr w w' cs :=
  ⟨h.bx.stepB (hb.mono (by omega)), (hb.block _ (by omega)).trans h.rc⟩

theorem three_set {wr : World} {n : Nat} {t : TypeId} {x y z a b c : Value} (h : wr.heap[n]? = some (.cells #[x, y, z] t (0, 0))) : (((wr.setCell ⟨n, 0, none⟩ a).setCell ⟨n, 1, none⟩ b).setCell ⟨n, 2, none⟩ c).heap[n]? = some (.cells #[a, b, c] t (0, 0)) :=
  heap_setCell_same _ n 2 _ _ c (heap_setCell_same _ n 1 _ _ b (heap_setCell_same _ n 0 _ _ a h))

theorem below_three {w wr : World} {n : Nat} {a b c : Value} (h : Below w.heap.size w wr) (hn : w.heap.size ≤ n) : Below w.heap.size w (((wr.setCell ⟨n, 0, none⟩ a).setCell ⟨n, 1, none⟩ b).setCell ⟨n, 2, none⟩ c) :=
  ((h.setCell hn _).setCell hn _).setCell hn _

theorem ints_nil (w : World) : IsInts w (.slice none 0 0) [] := ⟨⟨none, 0, 0, 0, rfl, Nat.le_refl _, Nat.zero_le _, Nat.zero_le _, fun _ => rfl, (fun h => absurd h (by simp)), fun j hj => absurd hj (by simp)⟩, by simp⟩

theorem rows_nil (w : World) : IsRows w (.slice none 0 0) [] := ⟨fun _ => undef, ⟨none, 0, 0, 0, rfl, Nat.le_refl _, Nat.zero_le _, Nat.zero_le _, fun _ => rfl, (fun h => absurd h (by simp)), fun j hj => absurd hj (by simp)⟩, fun j hj => absurd hj (by simp)⟩

theorem getD_I64 {l : List Int} (h : ∀ x ∈ l, I64 x) (j : Nat) : I64 (l.getD j 0) := by
  rcases Nat.lt_or_ge j l.length with hj | hj
  · rw [getD_lt _ _ _ hj]; exact h _ (List.getElem_mem hj)
  · simp [List.getD, Nat.not_lt.2 hj, I64]

theorem full_end {g : Gm} {s : List Bool} {w wr : World} {cs : Array Value} {B z : Nat} {x0 x1 x2 vk : Value} {vals others : List Value} {ks : List Int} (HR : partR g s = (partG g s ks, ks)) (hF : Fr w wr cs) (hB : w.heap.size + 1 < B)
    (hG : GB wr B z x0 x1 x2 vals (partG g s ks) others) (hK : OI wr B vk ks) (hk : ks.length ≤ 3000) (hkr : ∀ v ∈ ks, I64 v) (h0 : ∀ x ∈ g.owner, I64 x) (h1 : ∀ x ∈ g.prio, I64 x) (hS : ∀ i, (g.succ.getD i []).length ≤ 1000) (hs : ∀ i, (keptI s i).length ≤ i) (hrg : ∀ v ∈ ks, ∀ x ∈ g.succ.getD v.toNat [], 0 ≤ x ∧ x < 3000) :
    GameInts (partR g s).1 (partR g s).2 w (.returned (.tuple #[.agg #[x0, x1, x2], vk])) (((wr.setCell ⟨w.heap.size + 1, 0, none⟩ x0).setCell ⟨w.heap.size + 1, 1, none⟩ x1).setCell ⟨w.heap.size + 1, 2, none⟩ x2) := by
  rw [HR]
  have hm : ∀ n, n ≤ 3000 → n ≤ maxN := fun n hn => by simp only [maxN]; omega
  refine ⟨_, _, rfl, (((hG.setFar hB).setFar hB).setFar hB).is ⟨hm _ (by simp [partG]; exact hk), ?_⟩ ⟨hm _ (by simp [partG]; exact hk), ?_⟩ (hm _ (by simp [partG]; exact hk)) ?_, (((hK.setFar hB).setFar hB).setFar hB).is (hm _ hk) hkr, below_three hF.bx.bl (by omega)⟩
  · intro x hx
    obtain ⟨v, _, rfl⟩ := List.mem_map.1 hx
    exact getD_I64 h0 _
  · intro x hx
    obtain ⟨v, _, rfl⟩ := List.mem_map.1 hx
    exact getD_I64 h1 _
  · intro j hj
    have hj' : j < ks.length := by simpa [partG] using hj
    have e : (partG g s ks).succ.getD j [] = subI s (g.succ.getD ks[j].toNat []) := by simp [partG, List.getD, hj']
    rw [e]
    refine ⟨hm _ (Nat.le_trans (subI_len _ _) (Nat.le_trans (hS _) (by omega))), fun x hx => ?_⟩
    unfold subI at hx
    obtain ⟨y, hy, rfl⟩ := List.mem_map.1 hx
    have h3 := hrg _ (List.getElem_mem hj') y (List.mem_filter.1 hy).1
    have h4 := hs y.toNat
    unfold I64; omega

theorem nil_end {g : Gm} {s : List Bool} {w wr : World} {cs : Array Value} {a b c : Value} (HR : partR g s = (⟨[], [], []⟩, [])) (hF : Fr w wr cs) :
    GameInts (partR g s).1 (partR g s).2 w (.returned (.tuple #[.agg #[.slice none 0 0, .slice none 0 0, .slice none 0 0], .slice none 0 0])) (((wr.setCell ⟨w.heap.size + 1, 0, none⟩ a).setCell ⟨w.heap.size + 1, 1, none⟩ b).setCell ⟨w.heap.size + 1, 2, none⟩ c) := by
  rw [HR]
  exact ⟨_, _, rfl, ⟨_, _, _, rfl, ints_nil _, ints_nil _, rows_nil _⟩, ints_nil _, below_three hF.bx.bl (by omega)⟩

set_option maxRecDepth 100000 in
set_option maxHeartbeats 8000000 in
theorem Part_c (w : World) (vg vs : Value) (g : Gm) (s : List Bool) (hg : IsGame w vg g) (hs : IsBools w vs s) (hS : ∀ i, (g.succ.getD i []).length ≤ 1000) :
    Calls Try.prog 31 #[vg, vs] w (GameInts (partR g s).1 (partR g s).2 w) := by
  have hgx := hg
  have hsx := hs
  obtain ⟨v0, v1, v2, rfl, ⟨⟨ao0, cap0, b0, off0, rfl, g0⟩, i0⟩, ⟨⟨ao1, cap1, b1, off1, rfl, g1⟩, i1⟩, ⟨V, ⟨ao2, cap2, b2, off2, rfl, g2⟩, hr⟩⟩ := hg
  obtain ⟨aos, caps, bs, offs, rfl, hs⟩ := hs
  have hns := hs.nb
  cases hv : validB g
  · have HR : Hid (partR g s = (⟨[], [], []⟩, [])) := by show _ = _; simp [partR, hv]
    go_enter Try.func31, Try.ntmps31
    go_wp2_with fail
    refine (AValid_c _ _ g (hgx.below (by repeat (first | exact Below.refl _ _ | assumption | (refine belA ?_ _) | (refine belD ?_ _))))).mono ?_
    rintro e w1 ⟨rfl, hb1⟩
    rw [hv]
    have hF : Fr w w1 #[Value.slice ao0 g.owner.length cap0, Value.slice ao1 g.prio.length cap1, Value.slice ao2 g.succ.length cap2] :=
      ⟨Boxed.start ((bel_box _).trans (hb1.mono (by simp))), (hb1.block _ (by simp)).trans (by (repeat (rw [alloc_get]; first | rw [if_pos (by first | (simp; done) | (simp; omega))] | rw [if_neg (by first | (simp; done) | (simp; omega))])); (try rfl))⟩
    have d0 : w1.cell? ⟨w.heap.size, 0, none⟩ = some (Value.slice ao0 g.owner.length cap0) := hF.bx.cell 0 rfl
    have z0 : w1.cell? ⟨w.heap.size + 1, 0, none⟩ = some (.slice none 0 0) := cell_of_row _ _ 0 _ _ _ hF.rc
    have z1 : w1.cell? ⟨w.heap.size + 1, 1, none⟩ = some (.slice none 0 0) := cell_of_row _ _ 1 _ _ _ hF.rc
    have z2 : w1.cell? ⟨w.heap.size + 1, 2, none⟩ = some (.slice none 0 0) := cell_of_row _ _ 2 _ _ _ hF.rc
    have y0 : w1.frozen? ⟨w.heap.size + 1, 0, none⟩ = false := frozen_of_row _ _ 0 _ _ hF.rc
    have y1 : w1.frozen? ⟨w.heap.size + 1, 1, none⟩ = false := frozen_of_row _ _ 1 _ _ hF.rc
    have y2 : w1.frozen? ⟨w.heap.size + 1, 2, none⟩ = false := frozen_of_row _ _ 2 _ _ hF.rc
    clear hb1
    go_wp2
    (have hc3 := three_set (a := Value.slice none 0 0) (b := Value.slice none 0 0) (c := Value.slice none 0 0) hF.rc); (have c0 := cell_of_row _ _ 0 _ _ _ hc3); (have c1 := cell_of_row _ _ 1 _ _ _ hc3); (have c2 := cell_of_row _ _ 2 _ _ _ hc3); (refine bodyPost_ret (v := .tuple #[.agg #[Value.slice none 0 0, Value.slice none 0 0, Value.slice none 0 0], Value.slice none 0 0]) (by simp [results, Try.results31, go_sem, c0, c1, c2]) rfl ?_)
    exact nil_end HR.out hF
  by_cases hl : s.length = g.owner.length
  case neg =>
    have HR : Hid (partR g s = (⟨[], [], []⟩, [])) := by show _ = _; simp [partR, hl]
    have hne : ((s.length : Int) != g.owner.length) = true := by simp; omega
    clear hl
    go_enter Try.func31, Try.ntmps31
    go_wp2_with fail
    refine (AValid_c _ _ g (hgx.below (by repeat (first | exact Below.refl _ _ | assumption | (refine belA ?_ _) | (refine belD ?_ _))))).mono ?_
    rintro e w1 ⟨rfl, hb1⟩
    rw [hv]
    have hF : Fr w w1 #[Value.slice ao0 g.owner.length cap0, Value.slice ao1 g.prio.length cap1, Value.slice ao2 g.succ.length cap2] :=
      ⟨Boxed.start ((bel_box _).trans (hb1.mono (by simp))), (hb1.block _ (by simp)).trans (by (repeat (rw [alloc_get]; first | rw [if_pos (by first | (simp; done) | (simp; omega))] | rw [if_neg (by first | (simp; done) | (simp; omega))])); (try rfl))⟩
    have d0 : w1.cell? ⟨w.heap.size, 0, none⟩ = some (Value.slice ao0 g.owner.length cap0) := hF.bx.cell 0 rfl
    have z0 : w1.cell? ⟨w.heap.size + 1, 0, none⟩ = some (.slice none 0 0) := cell_of_row _ _ 0 _ _ _ hF.rc
    have z1 : w1.cell? ⟨w.heap.size + 1, 1, none⟩ = some (.slice none 0 0) := cell_of_row _ _ 1 _ _ _ hF.rc
    have z2 : w1.cell? ⟨w.heap.size + 1, 2, none⟩ = some (.slice none 0 0) := cell_of_row _ _ 2 _ _ _ hF.rc
    have y0 : w1.frozen? ⟨w.heap.size + 1, 0, none⟩ = false := frozen_of_row _ _ 0 _ _ hF.rc
    have y1 : w1.frozen? ⟨w.heap.size + 1, 1, none⟩ = false := frozen_of_row _ _ 1 _ _ hF.rc
    have y2 : w1.frozen? ⟨w.heap.size + 1, 2, none⟩ = false := frozen_of_row _ _ 2 _ _ hF.rc
    clear hb1
    go_wp2
    (have hc3 := three_set (a := Value.slice none 0 0) (b := Value.slice none 0 0) (c := Value.slice none 0 0) hF.rc); (have c0 := cell_of_row _ _ 0 _ _ _ hc3); (have c1 := cell_of_row _ _ 1 _ _ _ hc3); (have c2 := cell_of_row _ _ 2 _ _ _ hc3); (refine bodyPost_ret (v := .tuple #[.agg #[Value.slice none 0 0, Value.slice none 0 0, Value.slice none 0 0], Value.slice none 0 0]) (by simp [results, Try.results31, go_sem, c0, c1, c2]) rfl ?_)
    exact nil_end HR.out hF
  have hne : ((s.length : Int) != g.owner.length) = false := by simp; omega
  have F : Fits g 0 s.length := fits_of (by simp [fitsB, hv, hl])
  have hle := F.le
  have HRT : Hid (partOK g s (keptI s s.length) = true → partR g s = (partG g s (keptI s s.length), keptI s s.length)) := fun h => by unfold partR; rw [hv, h, decide_eq_true hl]; rfl
  have HRF : Hid (partOK g s (keptI s s.length) = false → partR g s = (⟨[], [], []⟩, [])) := fun h => by unfold partR; rw [hv, h, decide_eq_true hl]; rfl
  have HON : Hid (g.owner.length = s.length ∧ g.prio.length = s.length ∧ g.succ.length = s.length) := ⟨F.on, F.pn, F.sn⟩
  have HRG : Hid (∀ i, i < s.length → ∀ x ∈ g.succ.getD i [], 0 ≤ x ∧ x < s.length) := F.rg
  have HS := Lib.hid hS
  clear F hl hS
  go_enter Try.func31, Try.ntmps31
  go_wp2_with fail
  refine (AValid_c _ _ g (hgx.below (by repeat (first | exact Below.refl _ _ | assumption | (refine belA ?_ _) | (refine belD ?_ _))))).mono ?_
  rintro e w1 ⟨rfl, hb1⟩
  rw [hv]
  have hF : Fr w w1 #[Value.slice ao0 g.owner.length cap0, Value.slice ao1 g.prio.length cap1, Value.slice ao2 g.succ.length cap2] :=
    ⟨Boxed.start ((bel_box _).trans (hb1.mono (by simp))), (hb1.block _ (by simp)).trans (by (repeat (rw [alloc_get]; first | rw [if_pos (by first | (simp; done) | (simp; omega))] | rw [if_neg (by first | (simp; done) | (simp; omega))])); (try rfl))⟩
  have d0 : w1.cell? ⟨w.heap.size, 0, none⟩ = some (Value.slice ao0 g.owner.length cap0) := hF.bx.cell 0 rfl
  clear hb1
  obtain ⟨B, hBe⟩ : ∃ B, B = w.heap.size + 2 := ⟨_, rfl⟩
  have hB1 : B ≤ w1.heap.size := by have := hF.lt; omega
  go_wp2_with (at_make; refine mk_int rfl _ _ _ Try.underlying22 rfl B _ s.length rfl rfl rfl (by omega) hB1 ?_; intro w2 hown2 hg2)
  have hBl2 : Below B w1 w2 := (Below.refl _ _).grown hg2 hB1 (fun k hk => by cases hk)
  go_loopg [7, 33] s.length (fun gh vk i wr => ∃ (k : Nat) (l : List Int), gh = s.length - k ∧ i = .int .i64 k ∧ k ≤ s.length ∧ Below B w1 wr ∧ OI wr B (.slice (some ⟨w1.heap.size, 0, none⟩) s.length s.length) l ∧ Hid (l.length = s.length) ∧ Hid (l.take k = numI s k) ∧ OI wr B vk (keptI s k) ∧ Apart (.slice (some ⟨w1.heap.size, 0, none⟩) s.length s.length) vk)
  case atStart => exact ⟨0, _, rfl, rfl, by omega, hBl2, hown2, by show _ = _; simp, by simp [Hid, numI], OI_nil _ _, (apart_none rfl).symm⟩
  case round =>
    obtain ⟨k, l, hgk, rfl, hk, hB, hN, HL, HT, hK, hap⟩ := hrel
    have HG := Lib.hid hgk
    clear hgk hown2 hg2 hBl2
    by_cases hlt : k < s.length
    · obtain rfl := hs.ad (by omega)
      have hFr := hF.step (hBe ▸ hB)
      have c1 := cellB hFr.bx.bl (hs.el k hlt)
      unfold bvF at c1
      rw [getD_lt _ _ _ hlt] at c1
      have A1 : Hid (s.getD k false = s[k]) := getD_lt _ _ _ hlt
      have hlk : k < l.length := by rw [HL.out]; exact hlt
      have c2 := hN.at' HL.out.symm k hlk
      have f2 := hN.fz HL.out.symm k
      have hkl := keptI_len s k
      obtain ⟨aok, capk, hvk⟩ := hK.slice
      subst hvk
      have HN' : Hid (OI (wr.setCell ⟨w1.heap.size, k, none⟩ (.int .i64 ((keptI s k).length : Int))) B (.slice (some ⟨w1.heap.size, 0, none⟩) s.length s.length) (l.set k ((keptI s k).length : Int))) := hN.set HL.out.symm k _
      have HK' : Hid (OI (wr.setCell ⟨w1.heap.size, k, none⟩ (.int .i64 ((keptI s k).length : Int))) B (.slice aok (keptI s k).length capk) (keptI s k)) := hK.setNe (fun e => hap _ rfl e)
      have hB' : Below B w1 (wr.setCell ⟨w1.heap.size, k, none⟩ (.int .i64 ((keptI s k).length : Int))) := hB.setCell hB1 _
      have HTN : Hid ((l.set k ((keptI s k).length : Int)).take (k + 1) = numI s (k + 1)) := by
        show _ = _
        rw [numI_succ, ← HT.out, List.take_succ_eq_append_getElem (by simpa using hlk), List.take_set_of_le (Nat.le_refl _)]
        simp
      have HB' := Lib.hid hB'
      have hBs : B ≤ (wr.setCell ⟨w1.heap.size, k, none⟩ (.int .i64 ((keptI s k).length : Int))).heap.size := by rw [World.size_setCell]; exact Nat.le_trans hB1 hB.size
      have hnl : (keptI s k).length < 17592186043904 := by omega
      have HAP := Lib.hid hap
      clear hN hK hB hap hB'
      cases hq : s[k]
      · rw [hq] at c1
        go_wp2
        go_roundg (s.length - (k + 1))
        case measure => have := HG.out; omega
        case rel => exact ⟨k + 1, _, rfl, by go_num, by omega, HB'.out, HN'.out, by show _ = _; rw [List.length_set]; exact HL.out, HTN, by rw [keptI_succ, A1.out, hq]; exact HK'.out, HAP.out⟩
      · rw [hq] at c1
        go_wp2_with (at_builtin; refine app_int rfl _ _ (k : Int) rfl B _ _ HK'.out rfl _ (by simp) rfl hnl hBs ?_; intro v' w' hown' hg hmv)
        go_roundg (s.length - (k + 1))
        case measure => have := HG.out; omega
        case rel => exact ⟨k + 1, _, rfl, by go_num, by omega, HB'.out.grown hg hBs (fun g hg => HK'.out.ge g hg), HN'.out.grownA hg HAP.out, by show _ = _; rw [List.length_set]; exact HL.out, HTN, by rw [keptI_succ, A1.out, hq]; exact hown', HAP.out.moved hmv (fun g hg => by rw [World.size_setCell]; exact HN'.out.lt' g hg |> fun h => by simpa using h)⟩
    · obtain rfl : k = s.length := by omega
      have hFr := hF.step (hBe ▸ hB)
      have hlN : Hid (l = numI s s.length) := by
        show _ = _
        have h1 := HT.out
        rwa [List.take_of_length_le (by rw [HL.out]; exact Nat.le_refl _)] at h1
      obtain ⟨w3, rfl⟩ : ∃ w3 : World, w3 = wr := ⟨_, rfl⟩
      have hB3 : B ≤ w3.heap.size := Nat.le_trans hB1 hB.size
      have hkm := fun v (hv : v ∈ keptI s s.length) => keptI_mem hv
      have hkl0 := keptI_len s s.length
      generalize hks : keptI s s.length = ks at *
      clear hks HT HL HG hF hB hB1 d0
      have HKM := Lib.hid hkm
      clear hkm
      obtain ⟨aok, capk, hvk⟩ := hK.slice
      subst hvk
      have hSep : Sep [(.slice (some ⟨w1.heap.size, 0, none⟩) s.length s.length : Value), .slice aok ks.length capk] := List.pairwise_cons.2 ⟨(fun x hx => by rw [List.mem_singleton.1 hx]; exact hap), List.pairwise_cons.2 ⟨(fun x hx => by cases hx), List.Pairwise.nil⟩⟩
      have hGB := GB.start (B := B) (others := [(.slice (some ⟨w1.heap.size, 0, none⟩) s.length s.length : Value), .slice aok ks.length capk]) (w := w3) hB3 hSep (fun u hu g hg => by
        simp only [List.mem_cons, List.not_mem_nil, or_false] at hu
        rcases hu with rfl | rfl
        · exact hN.lt' g hg
        · exact hK.lt' g hg)
      have hN3 := hN.below (bel_box (.cells #[.slice none 0 0, .slice none 0 0, .slice none 0 0] 25))
      have hK3 := hK.below (bel_box (.cells #[.slice none 0 0, .slice none 0 0, .slice none 0 0] 25))
      clear hN hK hSep hap
      go_wp2
      generalize w1.heap.size = n1 at *
      go_loopg [5, 51] ks.length (fun gh r5 i wr => ∃ (k : Nat) (x0 x1 x2 : Value) (vals : List Value), gh = ks.length - k ∧ i = .int .i64 k ∧ r5 = .slice none 0 0 ∧ k ≤ ks.length ∧ Below B w3 wr ∧ GB wr B w3.heap.size x0 x1 x2 vals (partG g s (ks.take k)) [.slice (some ⟨n1, 0, none⟩) s.length s.length, .slice aok ks.length capk] ∧ OI wr B (.slice (some ⟨n1, 0, none⟩) s.length s.length) l ∧ OI wr B (.slice aok ks.length capk) ks ∧ Hid (partOK g s (ks.take k) = true))
      case atStart => exact ⟨0, _, _, _, _, rfl, rfl, rfl, by omega, (bel_box _).mono hB3, hGB, hN3, hK3, rfl⟩
      case round =>
        obtain ⟨k, x0, x1, x2, vals, hgk, rfl, rfl, hk, hB, hG, hN, hK, HP⟩ := hrel
        have HG := Lib.hid hgk
        clear hgk hGB hN3 hK3
        by_cases hlt : k < ks.length
        · have hFw := hFr.step (hBe ▸ hB)
          obtain ⟨gb, cb, hv', -, -⟩ := hK.row (by omega)
          simp only [Value.slice.injEq] at hv'
          obtain ⟨rfl, -, rfl⟩ := hv'
          have c1 := hK.at' rfl k hlt
          obtain ⟨n, hn, hns', hnb⟩ := HKM.out ks[k] (List.getElem_mem hlt)
          rw [hn] at c1
          have hn2 : n < g.succ.length := by rw [HON.out.2.2]; exact hns'
          have hn0 : n < g.owner.length := by rw [HON.out.1]; exact hns'
          have hn1 : n < g.prio.length := by rw [HON.out.2.1]; exact hns'
          obtain rfl := g2.ad (by omega)
          obtain rfl := g0.ad (by omega)
          obtain rfl := g1.ad (by omega)
          have c2 := cellB hFw.bx.bl (g2.el n hn2)
          obtain ⟨⟨ao3, cap3, b3, off3, hv3, g3⟩, -⟩ := hr n hn2
          rw [hv3] at c2
          have hrg := HRG.out n hns'
          have hsl := HS.out n
          generalize hrow : g.succ.getD n [] = row at *
          have HRR := Lib.hid hrg
          have HKN := Lib.hid hn
          have HROW := Lib.hid hrow
          clear hrg hv3 hn hrow hnb
          have d2 : wr.cell? ⟨w.heap.size, 2, none⟩ = some (Value.slice (some ⟨b2, off2, none⟩) g.succ.length cap2) := hFw.bx.cell 2 rfl
          have hBr : B ≤ wr.heap.size := Nat.le_trans hB3 hB.size
          go_wp2
          obtain ⟨wo, rfl⟩ : ∃ wo : World, wo = wr := ⟨_, rfl⟩
          go_loopg [13, 61] row.length (fun gh vS i wx => ∃ (j : Nat), gh = row.length - j ∧ i = .int .i64 j ∧ j ≤ row.length ∧ Below B wo wx ∧ GB wx B w3.heap.size x0 x1 x2 vals (partG g s (ks.take k)) [vS, .slice (some ⟨n1, 0, none⟩) s.length s.length, .slice (some ⟨gb, 0, none⟩) ks.length capk] ∧ OI wx B vS (subI s (row.take j)) ∧ OI wx B (.slice (some ⟨n1, 0, none⟩) s.length s.length) l ∧ OI wx B (.slice (some ⟨gb, 0, none⟩) ks.length capk) ks)
          case atStart => exact ⟨0, rfl, rfl, by omega, Below.refl _ _, hG.add rfl, OI_nil _ _, hN, hK⟩
          case round =>
            obtain ⟨j, hgj, rfl, hj, hB2, hG2, hS2, hN2, hK2⟩ := hrel
            have HGJ := Lib.hid hgj
            clear hgj d2 c1 c2
            by_cases hltj : j < row.length
            · obtain rfl := g3.ad (by omega)
              have hFx := hFw.step (hBe ▸ hB2)
              have c3 := cellB hFx.bx.bl (g3.el j hltj)
              unfold ivF at c3
              rw [getD_lt _ _ _ hltj] at c3
              obtain ⟨y0, y1⟩ := HRR.out row[j] (List.getElem_mem hltj)
              obtain ⟨m, hm⟩ := Int.eq_ofNat_of_zero_le y0
              have hms : m < s.length := by omega
              rw [hm] at c3
              obtain rfl := hs.ad (by omega)
              have c4 := cellB hFx.bx.bl (hs.el m hms)
              unfold bvF at c4
              rw [getD_lt _ _ _ hms] at c4
              have A1 : Hid (atB s row[j] = s[m]) := by show _ = _; rw [atB, hm]; simp [hms]
              have hml : m < l.length := by rw [hlN.out, numI_len]; exact hms
              have hlm : l[m] = ((keptI s m).length : Int) := by
                have := numI_get s s.length m hms
                rw [← hlN.out, getD_lt _ _ _ hml] at this
                exact this
              have c5 := hN2.at' (by rw [hlN.out, numI_len]) m hml
              rw [hlm] at c5
              have hsn := subI_snoc s (row.take j) row[j]
              rw [← List.take_succ_eq_append_getElem hltj, A1.out, hm, Int.toNat_natCast] at hsn
              have HSN := Lib.hid hsn
              have hsl2 : (subI s (row.take j)).length < 17592186043904 := by
                have h1 := subI_len s (row.take j)
                have h2 : (row.take j).length ≤ row.length := List.length_take_le' _ _
                omega
              have hBs : B ≤ wr.heap.size := Nat.le_trans hBr hB2.size
              have HN2 := Lib.hid hN2
              have HK2 := Lib.hid hK2
              have HS2 := Lib.hid hS2
              have HG2 := Lib.hid hG2
              have HB2 := Lib.hid hB2
              clear hsn hlm y0 y1 hm hN2 hK2 hS2 hG2 hB2 hml
              generalize ((keptI s m).length : Int) = km at *
              cases hq : s[m]
              · rw [hq] at c4
                go_wp2
                go_roundg (row.length - (j + 1))
                case measure => have := HGJ.out; omega
                case rel => exact ⟨j + 1, rfl, by go_num, by omega, HB2.out, HG2.out, by rw [HSN.out, hq]; exact HS2.out, HN2.out, HK2.out⟩
              · rw [hq] at c4
                go_wp2_with (at_builtin; refine app_int rfl _ _ km rfl B _ _ HS2.out rfl _ (by simp) rfl hsl2 hBs ?_; intro v' w' hown' hg hmv)
                go_roundg (row.length - (j + 1))
                case measure => have := HGJ.out; omega
                case rel => exact ⟨j + 1, rfl, by go_num, by omega, HB2.out.grown hg hBs (fun g hg => HS2.out.ge g hg), HG2.out.other (i := 0) rfl hg hmv hown'.lt', by rw [HSN.out, hq]; exact hown', HN2.out.grownA hg (HG2.out.apart (i := 1) (j := 0) (by omega) rfl rfl), HK2.out.grownA hg (HG2.out.apart (i := 2) (j := 0) (by omega) rfl rfl)⟩
            · obtain rfl : j = row.length := by omega
              rw [List.take_length] at hS2
              have hFx := hFw.step (hBe ▸ hB2)
              obtain ⟨aoS, capS, hvS⟩ := hS2.slice
              subst hvS
              have hBs : B ≤ wr.heap.size := Nat.le_trans hBr hB2.size
              by_cases he : (subI s row).length = 0
              · have hz0 : (((subI s row).length : Int) == 0) = true := by simp [he]
                have HRX : Hid (partR g s = (⟨[], [], []⟩, [])) := HRF.out (all_false_of ks _ k hlt (by rw [HKN.out, Int.toNat_natCast, HROW.out]; simp [List.eq_nil_of_length_eq_zero he]))
                have z0 : wr.cell? ⟨w.heap.size + 1, 0, none⟩ = some (.slice none 0 0) := cell_of_row _ _ 0 _ _ _ hFx.rc
                have z1 : wr.cell? ⟨w.heap.size + 1, 1, none⟩ = some (.slice none 0 0) := cell_of_row _ _ 1 _ _ _ hFx.rc
                have z2 : wr.cell? ⟨w.heap.size + 1, 2, none⟩ = some (.slice none 0 0) := cell_of_row _ _ 2 _ _ _ hFx.rc
                have y0 : wr.frozen? ⟨w.heap.size + 1, 0, none⟩ = false := frozen_of_row _ _ 0 _ _ hFx.rc
                have y1 : wr.frozen? ⟨w.heap.size + 1, 1, none⟩ = false := frozen_of_row _ _ 1 _ _ hFx.rc
                have y2 : wr.frozen? ⟨w.heap.size + 1, 2, none⟩ = false := frozen_of_row _ _ 2 _ _ hFx.rc
                clear he
                go_wp2
                (have hc3 := three_set (a := Value.slice none 0 0) (b := Value.slice none 0 0) (c := Value.slice none 0 0) hFx.rc); (have c0 := cell_of_row _ _ 0 _ _ _ hc3); (have c1 := cell_of_row _ _ 1 _ _ _ hc3); (have c2 := cell_of_row _ _ 2 _ _ _ hc3); (refine bodyPost_ret (v := .tuple #[.agg #[Value.slice none 0 0, Value.slice none 0 0, Value.slice none 0 0], Value.slice none 0 0]) (by simp [results, Try.results31, go_sem, c0, c1, c2]) rfl ?_)
                exact nil_end HRX.out hFx
              · have hz0 : (((subI s row).length : Int) == 0) = false := by rw [beq_eq_false_iff_ne]; omega
                have HNE : Hid ((subI s row).length ≠ 0) := he
                have HP2 : Hid (partOK g s (ks.take (k + 1)) = true) := by
                  show _ = _
                  unfold partOK
                  rw [all_take_succ _ _ _ hlt, HKN.out, Int.toNat_natCast, HROW.out]
                  have h1 := HP.out
                  unfold partOK at h1
                  rw [h1]
                  cases hh : subI s row with
                  | nil => rw [hh] at he; exact absurd rfl he
                  | cons a b => rfl
                have hGL : (partG g s (ks.take k)).owner.length ≤ 3000 ∧ (partG g s (ks.take k)).prio.length ≤ 3000 ∧ (partG g s (ks.take k)).succ.length ≤ 3000 := by
                  have : (ks.take k).length ≤ 3000 := Nat.le_trans (List.length_take_le' k ks) (Nat.le_trans hkl0 hle)
                  simp only [partG, List.length_map]; exact ⟨this, this, this⟩
                have HGN : Hid (partG g s (ks.take (k + 1)) = ⟨(partG g s (ks.take k)).owner ++ [g.owner.getD n 0], (partG g s (ks.take k)).prio ++ [g.prio.getD n 0], (partG g s (ks.take k)).succ ++ [subI s row]⟩) := by
                  show _ = _
                  rw [List.take_succ_eq_append_getElem hlt, partG_snoc, HKN.out, Int.toNat_natCast, HROW.out]
                clear he HP
                generalize hgm : partG g s (ks.take k) = gm at *
                clear hgm
                have hGL0 := hGL.1
                have hGL1 := hGL.2.1
                have hGL2 := hGL.2.2
                clear hGL
                obtain ⟨w5, rfl⟩ : ∃ w5 : World, w5 = wr := ⟨_, rfl⟩
                have hzl := hG2.zlt
                have hi0 : (0 : Int) ≤ n := Int.natCast_nonneg _
                have HGP : Hid (∀ o : List Int, (⟨o, gm.prio, gm.succ⟩ : Gm).prio = gm.prio) := fun _ => rfl
                have how := g0.el n hn0
                have hpw := g1.el n hn1
                unfold ivF at how hpw
                generalize g.owner.getD n 0 = ow at *
                generalize g.prio.getD n 0 = pw at *
                have HC0 : Hid (∀ W : World, Below w.heap.size w W → W.cell? ⟨b0, off0 + n, none⟩ = some (.int .i64 ow)) := fun W hW => cellB hW how
                have HC1 : Hid (∀ W : World, Below w.heap.size w W → W.cell? ⟨b1, off1 + n, none⟩ = some (.int .i64 pw)) := fun W hW => cellB hW hpw
                clear how hpw
                have HG2 := Lib.hid hG2
                have HS2 := Lib.hid hS2
                have HN2 := Lib.hid hN2
                have HK2 := Lib.hid hK2
                have HFx := Lib.hid hFx
                have HBl := Lib.hid (hB2 : Below B wo w5)
                have HBo := Lib.hid (hB : Below B w3 wo)
                clear hG2 hS2 hN2 hK2 hFx hFw hG hN hK hB2 hB
                have q0 : w5.cell? ⟨w3.heap.size, 0, none⟩ = some x0 := cell_of_row _ _ 0 _ _ _ HG2.out.box
                have d0 : w5.cell? ⟨w.heap.size, 0, none⟩ = some (Value.slice (some ⟨b0, off0, none⟩) g.owner.length cap0) := HFx.out.bx.cell 0 rfl
                have c0 := HC0.out _ HFx.out.bx.bl
                have hzl := HG2.out.zlt
                have hi1 : (n : Int) < g.owner.length := by omega
                have hGo := HG2.out.o
                go_upto_region 25 with (fail)
                go_cut [] (fun wx => ∃ (y0 : Value) (wz : World), wz = wx ∧ GB wz B w3.heap.size y0 x1 x2 vals ⟨gm.owner ++ [ow], gm.prio, gm.succ⟩ [.slice aoS (subI s row).length capS, .slice (some ⟨n1, 0, none⟩) s.length s.length, .slice (some ⟨gb, 0, none⟩) ks.length capk] ∧ Kept B [.slice aoS (subI s row).length capS, .slice (some ⟨n1, 0, none⟩) s.length s.length, .slice (some ⟨gb, 0, none⟩) ks.length capk] w5 wz)
                case first =>
                  go_region_law ((rw [if_pos (by rfl)]; refine wp_app_int w5 _ _ ow (by rfl) B x0 _ (by rfl) hGo (by rfl) (by omega) hBs ?_; intro y0 w6 hown6 hg6 hmv6; obtain ⟨aoy, capy, hvy⟩ := hown6.slice; rw [List.length_append, List.length_singleton] at hvy; subst hvy; have hb6 : Below B w5 w6 := (Below.refl _ _).grown hg6 hBs (fun g hg => HG2.out.o.ge g hg); have hF6 := HFx.out.step (hBe ▸ hb6); have HST := Lib.hid (HG2.out.stepO hown6 hg6 hmv6 hBs); have k0 : w6.cell? ⟨w3.heap.size, 0, none⟩ = some x0 := cell_of_row _ _ 0 _ _ _ HST.out.1; have f0 : w6.frozen? ⟨w3.heap.size, 0, none⟩ = false := frozen_of_row _ _ 0 _ _ HST.out.1))
                  all_goals
                    go_wp2_with fail
                    go_meet
                    case rel => exact ⟨_, _, rfl, HST.out.2⟩
                case rest =>
                  obtain ⟨y1, w7, rfl, hG7, hK7⟩ := hcut
                  clear q0 d0 c0 hzl hi1 hGo
                  have HS7 := Lib.hid (hK7.oi _ (by simp) _ _ HS2.out)
                  have HN7 := Lib.hid (hK7.oi _ (by simp) _ _ HN2.out)
                  have HK7 := Lib.hid (hK7.oi _ (by simp) _ _ HK2.out)
                  have HF7 := Lib.hid (HFx.out.step (hBe ▸ hK7.bl))
                  have HBl7 := Lib.hid (HBl.out.trans hK7.bl)
                  have hBs7 : B ≤ w7.heap.size := Nat.le_trans hBs hK7.bl.size
                  have HG7 := Lib.hid hG7
                  clear hG7 hK7 HS2 HN2 HK2 HFx HBl HG2 hBs
                  have q0 : w7.cell? ⟨w3.heap.size, 1, none⟩ = some x1 := cell_of_row _ _ 1 _ _ _ HG7.out.box
                  have d0 : w7.cell? ⟨w.heap.size, 1, none⟩ = some (Value.slice (some ⟨b1, off1, none⟩) g.prio.length cap1) := HF7.out.bx.cell 1 rfl
                  have c0 := HC1.out _ HF7.out.bx.bl
                  have hzl := HG7.out.zlt
                  have hi1 : (n : Int) < g.prio.length := by omega
                  have hGo : OI w7 B x1 gm.prio := HG7.out.p
                  go_wp2_with fail
                  go_upto_region 26 with (fail)
                  go_cut [] (fun wx => ∃ (y0 : Value) (wz : World), wz = wx ∧ GB wz B w3.heap.size y1 y0 x2 vals ⟨gm.owner ++ [ow], gm.prio ++ [pw], gm.succ⟩ [.slice aoS (subI s row).length capS, .slice (some ⟨n1, 0, none⟩) s.length s.length, .slice (some ⟨gb, 0, none⟩) ks.length capk] ∧ Kept B [.slice aoS (subI s row).length capS, .slice (some ⟨n1, 0, none⟩) s.length s.length, .slice (some ⟨gb, 0, none⟩) ks.length capk] w7 wz)
                  case first =>
                    go_region_law ((rw [if_pos (by rfl)]; refine wp_app_int w7 _ _ pw (by rfl) B x1 _ (by rfl) hGo (by rfl) (by omega) hBs7 ?_; intro y0 w6 hown6 hg6 hmv6; obtain ⟨aoy, capy, hvy⟩ := hown6.slice; rw [List.length_append, List.length_singleton] at hvy; subst hvy; have hb6 : Below B w7 w6 := (Below.refl _ _).grown hg6 hBs7 (fun g hg => HG7.out.p.ge g hg); have HST := Lib.hid (HG7.out.stepP hown6 hg6 hmv6 hBs7); have k0 : w6.cell? ⟨w3.heap.size, 1, none⟩ = some x1 := cell_of_row _ _ 1 _ _ _ HST.out.1; have f0 : w6.frozen? ⟨w3.heap.size, 1, none⟩ = false := frozen_of_row _ _ 1 _ _ HST.out.1))
                    all_goals
                      go_wp2_with fail
                      go_meet
                      case rel => exact ⟨_, _, rfl, HST.out.2⟩
                  case rest =>
                    obtain ⟨y2, w8, rfl, hG8, hK8⟩ := hcut
                    clear q0 d0 c0 hzl hi1 hGo
                    have HS8 := Lib.hid (hK8.oi _ (by simp) _ _ HS7.out)
                    have HN8 := Lib.hid (hK8.oi _ (by simp) _ _ HN7.out)
                    have HK8 := Lib.hid (hK8.oi _ (by simp) _ _ HK7.out)
                    have HF8 := Lib.hid (HF7.out.step (hBe ▸ hK8.bl))
                    have HBl8 := Lib.hid (HBl7.out.trans hK8.bl)
                    have hBs8 : B ≤ w8.heap.size := Nat.le_trans hBs7 hK8.bl.size
                    have HG8 := Lib.hid hG8
                    have hzl := hG8.zlt
                    have q2 : w8.cell? ⟨w3.heap.size, 2, none⟩ = some x2 := cell_of_row _ _ 2 _ _ _ hG8.box
                    clear hG8 hK8 HS7 HN7 HK7 HF7 HBl7 HG7 hBs7
                    go_wp2_with (at_builtin; refine app_row rfl _ _ _ rfl B _ _ vals HG8.out.r rfl _ (by simp) rfl (OI_oneCell HS8.out) (by show gm.succ.length < _; omega) hBs8 ?_; intro v2' w9 hown9 hg9 hmv9; obtain ⟨ao9, cap9, hv9⟩ := ownsRow_slice hown9; subst hv9; have HST := Lib.hid (HG8.out.stepR HS8.out hown9 hg9 hmv9 hBs8); have k2 : w9.cell? ⟨w3.heap.size, 2, none⟩ = some x2 := cell_of_row _ _ 2 _ _ _ HST.out.1; have f2 : w9.frozen? ⟨w3.heap.size, 2, none⟩ = false := frozen_of_row _ _ 2 _ _ HST.out.1)
                    go_roundg (ks.length - (k + 1))
                    case measure => have := HG.out; omega
                    case rel =>
                      obtain ⟨-, h1, h2⟩ := HST.out
                      rw [← HGN.out] at h1
                      exact ⟨k + 1, y1, y2, _, _, rfl, by go_num, rfl, by omega, HBo.out.trans (HBl8.out.trans h2.bl), h1, h2.oi _ (by simp) _ _ HN8.out, h2.oi _ (by simp) _ _ HK8.out, HP2⟩
        · obtain rfl : k = ks.length := by omega
          rw [List.take_length] at hG HP
          have hFw := hFr.step (hBe ▸ hB)
          have HRX : Hid (partR g s = (partG g s ks, ks)) := HRT.out HP.out
          obtain ⟨oa0, oc0, hx0⟩ := hG.o.slice
          obtain ⟨oa1, oc1, hx1⟩ := hG.p.slice
          obtain ⟨oa2, oc2, hx2⟩ := ownsRow_slice hG.r
          subst hx0 hx1 hx2
          have q0 : wr.cell? ⟨w3.heap.size, 0, none⟩ = some (.slice oa0 (partG g s ks).owner.length oc0) := cell_of_row _ _ 0 _ _ _ hG.box
          have q1 : wr.cell? ⟨w3.heap.size, 1, none⟩ = some (.slice oa1 (partG g s ks).prio.length oc1) := cell_of_row _ _ 1 _ _ _ hG.box
          have q2 : wr.cell? ⟨w3.heap.size, 2, none⟩ = some (.slice oa2 (partG g s ks).succ.length oc2) := cell_of_row _ _ 2 _ _ _ hG.box
          have z0 : wr.cell? ⟨w.heap.size + 1, 0, none⟩ = some (.slice none 0 0) := cell_of_row _ _ 0 _ _ _ hFw.rc
          have z1 : wr.cell? ⟨w.heap.size + 1, 1, none⟩ = some (.slice none 0 0) := cell_of_row _ _ 1 _ _ _ hFw.rc
          have z2 : wr.cell? ⟨w.heap.size + 1, 2, none⟩ = some (.slice none 0 0) := cell_of_row _ _ 2 _ _ _ hFw.rc
          have y0 : wr.frozen? ⟨w.heap.size + 1, 0, none⟩ = false := frozen_of_row _ _ 0 _ _ hFw.rc
          have y1 : wr.frozen? ⟨w.heap.size + 1, 1, none⟩ = false := frozen_of_row _ _ 1 _ _ hFw.rc
          have y2 : wr.frozen? ⟨w.heap.size + 1, 2, none⟩ = false := frozen_of_row _ _ 2 _ _ hFw.rc
          have HGg := Lib.hid hG
          have HKk := Lib.hid hK
          have HBB : Hid (w.heap.size + 1 < B) := by show _ < _; omega
          clear hG hK hN hB
          go_wp2
          (have hc3 := three_set (a := Value.slice oa0 (partG g s ks).owner.length oc0) (b := Value.slice oa1 (partG g s ks).prio.length oc1) (c := Value.slice oa2 (partG g s ks).succ.length oc2) hFw.rc); (have c0 := cell_of_row _ _ 0 _ _ _ hc3); (have c1 := cell_of_row _ _ 1 _ _ _ hc3); (have c2 := cell_of_row _ _ 2 _ _ _ hc3); (refine bodyPost_ret (v := .tuple #[.agg #[Value.slice oa0 (partG g s ks).owner.length oc0, Value.slice oa1 (partG g s ks).prio.length oc1, Value.slice oa2 (partG g s ks).succ.length oc2], Value.slice aok ks.length capk]) (by simp [results, Try.results31, go_sem, c0, c1, c2]) rfl ?_)
          refine full_end HRX.out hFw HBB.out HGg.out HKk.out (by omega) (fun v hv => ?_) i0 i1 (fun i => HS.out i) (fun i => keptI_len s i) (fun v hv x hx => ?_)
          · obtain ⟨n, rfl, hn, -⟩ := HKM.out v hv
            unfold I64; omega
          · obtain ⟨n, rfl, hn, -⟩ := HKM.out v hv
            rw [Int.toNat_natCast] at hx
            have := HRG.out n hn x hx
            omega

section
variable {P : Program} {ops : Array Oper} {Q : Exit → Act → World → Prop} {md : Region.Mode}
/-- Each edge leads back. -/
def backB (md : Region.Mode) (ops : Array Oper) : Bool := (List.range ops.size).all fun i => match ops[i]? with | some o => o.after.toList.all (fun e => !Region.binds md e || decide (e.on < i)) | none => true
end

section
variable {P : Program} {ops : Array Oper} {Q : Exit → Act → World → Prop} {md : Region.Mode}
theorem backB_spec (h : backB md ops = true) {i : Nat} {o : Oper} (hi : ops[i]? = some o) : ∀ e ∈ o.after, Region.binds md e = true → e.on < i := by
  intro e he hb
  have := List.all_eq_true.1 h i (List.mem_range.2 (Array.getElem?_eq_some_iff.1 hi).1)
  rw [hi] at this
  have := List.all_eq_true.1 this e (by simpa using he)
  rw [hb] at this
  simpa using this
end

section
variable {P : Program} {ops : Array Oper} {Q : Exit → Act → World → Prop} {md : Region.Mode}
theorem all_listed (h : backB md ops = true) {listed : Array Bool} (hs : listed.size = ops.size) (hr : Region.ready md ops listed = []) : ∀ i, i < ops.size → listed.getD i false = true := by
  intro i
  induction i using Nat.strongRecOn with
  | _ i ih =>
    intro hi
    cases hl : listed.getD i false with
    | true => rfl
    | false =>
      have hi2 : i < listed.size := by omega
      have hm : i ∈ Region.ready md ops listed := by
        refine mem_ready.2 ⟨?_, ops[i], by simp [hi], fun e he hb => ?_⟩
        · simp [Array.getD, hi2] at hl ⊢; exact hl
        · have hlt := backB_spec h (i := i) (o := ops[i]) (by simp [hi]) e he hb
          exact ih e.on hlt (by omega)
      rw [hr] at hm
      cases hm
end

section
variable {P : Program} {ops : Array Oper} {Q : Exit → Act → World → Prop} {md : Region.Mode}
/-- What is known: the listed operations have left their values. -/
def StInv (R : Nat → Value → World → Prop) (w : World) (listed : Array Bool) (vs : Nat → Value) (W : World) : Prop :=
  Below w.heap.size w W ∧ ∀ i, listed.getD i false = true → R i (vs i) W
end

section
variable {P : Program} {ops : Array Oper} {Q : Exit → Act → World → Prop} {md : Region.Mode}
/-- The values, one of them set. -/
def upd (vs : Nat → Value) (i : Nat) (v : Value) : Nat → Value := fun j => if j = i then v else vs j
end

section
variable {P : Program} {ops : Array Oper} {Q : Exit → Act → World → Prop} {md : Region.Mode}
/-- One operation: it leaves a value that R tells, and writes nothing that was there. -/
def StStep (P : Program) (Q : Exit → Act → World → Prop) (ops : Array Oper) (R : Nat → Value → World → Prop) (A : (Nat → Value) → Act) (w : World) (i : Nat) (o : Oper) : Prop :=
  ∀ (vs : Nat → Value) (W : World) (K : Act → World → Prop), Below w.heap.size w W → (∀ e ∈ o.after, Region.binds .any e = true → R e.on (vs e.on) W) →
    (∀ v W', Below W.heap.size W W' → R i v W' → K (A (upd vs i v)) W') →
    if Region.wanted o (yielded ops (A vs).tmps) = true then Oper.wp P o (A vs) W K Q else K ((A vs).put o.dst undef) W
end

section
variable {P : Program} {ops : Array Oper} {Q : Exit → Act → World → Prop} {md : Region.Mode}
theorem getD_false {l : Array Bool} {i : Nat} (h : l.getD i true = false) : i < l.size ∧ l.toList[i]? = some false := by
  rcases Nat.lt_or_ge i l.size with hi | hi
  · refine ⟨hi, ?_⟩
    simp [Array.getD, hi] at h
    simp [hi, h]
  · simp [Array.getD, Nat.not_lt.2 hi] at h
end

section
variable {P : Program} {ops : Array Oper} {Q : Exit → Act → World → Prop} {md : Region.Mode}
theorem count_down {l : Array Bool} {i n : Nat} (h : l.getD i true = false) (hc : l.toList.count false ≤ n + 1) : (l.setIfInBounds i true).toList.count false ≤ n := by
  obtain ⟨h1, h2⟩ := getD_false h
  have h3 : i < l.toList.length := by simpa using h1
  have h4 : l.toList[i] = false := by
    rw [List.getElem?_eq_getElem h3] at h2
    exact Option.some.inj h2
  rw [Array.toList_setIfInBounds, List.count_set h3, h4]
  simp only [BEq.rfl, if_true, show (true == false) = false from rfl, Bool.false_eq_true, if_false]
  omega
end

section
variable {P : Program} {ops : Array Oper} {Q : Exit → Act → World → Prop} {md : Region.Mode}
theorem stable_any (R : Nat → Value → World → Prop) (A : (Nat → Value) → Act) {w : World} (hb : backB .any ops = true) (hR : ∀ i v W W', R i v W → Below W.heap.size W W' → R i v W')
    (hstep : ∀ i o, ops[i]? = some o → StStep P Q ops R A w i o)
    (hfin : ∀ vs W, Below w.heap.size w W → (∀ i, i < ops.size → R i (vs i) W) → Q .normal (A vs) W) :
    ∀ (fuel : Nat) (listed : Array Bool) (vs : Nat → Value) (W : World), listed.size = ops.size → listed.toList.count false ≤ fuel → StInv R w listed vs W → wpAny P .any ops Q fuel listed (A vs) W
  | 0, listed, vs, W, hs, hc, hinv => by
    have hno : ∀ j, ¬ listed.getD j true = false := fun j h => by
      obtain ⟨_, h2⟩ := getD_false h
      have : 0 < listed.toList.count false := List.count_pos_iff.2 (List.mem_of_getElem? h2)
      omega
    have hr : Region.ready .any ops listed = [] := List.eq_nil_iff_forall_not_mem.2 fun j hj => hno j (mem_ready.1 hj).1
    exact ⟨hr, hfin vs W hinv.1 fun i hi => hinv.2 i (all_listed hb hs hr i hi)⟩
  | fuel + 1, listed, vs, W, hs, hc, hinv => by
    refine ⟨fun hr => hfin vs W hinv.1 fun i hi => hinv.2 i (all_listed hb hs hr i hi), fun i hi => ?_⟩
    obtain ⟨hl, o, ho, hall⟩ := mem_ready.1 hi
    refine wpOp_step ho fun K hK => ?_
    refine hstep i o ho vs W K hinv.1 (fun e he hbd => hinv.2 _ (hall e he hbd)) fun v W' hbl hr => hK _ _ ?_
    refine stable_any R A hb hR hstep hfin fuel _ (upd vs i v) W' (by simpa using hs) (count_down hl hc) ⟨hinv.1.trans (hbl.mono hinv.1.size), fun j hj => ?_⟩
    by_cases hji : j = i
    · subst hji
      simpa [upd] using hr
    · have hj' : listed.getD j false = true := by
        have : (listed.setIfInBounds i true).getD j false = listed.getD j false := by
          simp [Array.getD_eq_getD_getElem?, Ne.symm hji]
        rwa [this] at hj
      simp only [upd, if_neg hji]
      exact hR j _ W W' (hinv.2 j hj') hbl
end

section
variable {P : Program} {ops : Array Oper} {Q : Exit → Act → World → Prop} {md : Region.Mode}
/-- The region. A tells the frame by the values of the operations; R i what is known of the value of operation i. -/
theorem region_stable {id : Nat} {a : Act} {w : World} (hm : P.follows .mixedOrders = true) (R : Nat → Value → World → Prop) (A : (Nat → Value) → Act) (vs : Nat → Value) (ha : a = A vs) (hb : backB .any ops = true)
    (hR : ∀ i v W W', R i v W → Below W.heap.size W W' → R i v W')
    (hstep : ∀ i o, ops[i]? = some o → StStep P Q ops R A w.drew i o)
    (hfin : ∀ vs W, Below w.drew.heap.size w.drew W → (∀ i, i < ops.size → R i (vs i) W) → Q .normal (A vs) W) : (Code.region id ops true).wp P Q a w := by
  subst ha
  refine wp_region_any hm (stable_any R A hb hR hstep hfin ops.size _ vs w.drew (by simp) ?_ ⟨Below.refl _ _, fun i hi => ?_⟩)
  · simp
  · exfalso
    rcases Nat.lt_or_ge i ops.size with h | h
    · simp [Array.getD, h] at hi
    · simp [Array.getD, Nat.not_lt.2 h] at hi
end

section
variable {P : Program} {ops : Array Oper} {Q : Exit → Act → World → Prop} {md : Region.Mode}
/-- The last operation waits for all others. -/
def lastB (ops : Array Oper) (m : Nat) : Bool := decide (ops.size = m + 1) && match ops[m]? with | some o => (List.range m).all (fun j => o.after.toList.any fun e => Region.binds .any e && e.on == j) | none => false
end

section
variable {P : Program} {ops : Array Oper} {Q : Exit → Act → World → Prop} {md : Region.Mode}
theorem ready_nil {listed : Array Bool} (h : ∀ i, i < ops.size → listed.getD i false = true) : Region.ready md ops listed = [] :=
  List.eq_nil_iff_forall_not_mem.2 fun j hj => by
    obtain ⟨h1, o, ho, _⟩ := mem_ready.1 hj
    have hj2 := (Array.getElem?_eq_some_iff.1 ho).1
    have h2 := h j hj2
    obtain ⟨h3, _⟩ := getD_false h1
    simp [Array.getD, h3] at h1 h2
    rw [h1] at h2; cases h2
end

section
variable {P : Program} {ops : Array Oper} {Q : Exit → Act → World → Prop} {md : Region.Mode}
theorem wpAny_done {listed : Array Bool} {a : Act} {w : World} (h : ∀ i, i < ops.size → listed.getD i false = true) (hQ : Q .normal a w) : ∀ fuel, wpAny P md ops Q fuel listed a w
  | 0 => ⟨ready_nil h, hQ⟩
  | _ + 1 => ⟨fun _ => hQ, by rw [ready_nil h]; simp⟩
end

section
variable {P : Program} {ops : Array Oper} {Q : Exit → Act → World → Prop} {md : Region.Mode}
/-- The last operation, which may write. -/
def StLast (P : Program) (Q : Exit → Act → World → Prop) (ops : Array Oper) (R : Nat → Value → World → Prop) (A : (Nat → Value) → Act) (w : World) (m : Nat) (o : Oper) : Prop :=
  ∀ (vs : Nat → Value) (W : World) (K : Act → World → Prop), Below w.heap.size w W → (∀ i, i < m → R i (vs i) W) → (∀ a' W', Q .normal a' W' → K a' W') →
    if Region.wanted o (yielded ops (A vs).tmps) = true then Oper.wp P o (A vs) W K Q else K ((A vs).put o.dst undef) W
end

section
variable {P : Program} {ops : Array Oper} {Q : Exit → Act → World → Prop} {md : Region.Mode}
theorem last_any (R : Nat → Value → World → Prop) (A : (Nat → Value) → Act) {w : World} (m : Nat) (hb : backB .any ops = true) (hl : lastB ops m = true) (hR : ∀ i v W W', R i v W → Below W.heap.size W W' → R i v W')
    (hstep : ∀ i o, i < m → ops[i]? = some o → StStep P Q ops R A w i o) (hlast : ∀ o, ops[m]? = some o → StLast P Q ops R A w m o) :
    ∀ (fuel : Nat) (listed : Array Bool) (vs : Nat → Value) (W : World), listed.size = ops.size → listed.toList.count false ≤ fuel → listed.getD m false = false → StInv R w listed vs W → wpAny P .any ops Q fuel listed (A vs) W
  | 0, listed, vs, W, hs, hc, hm, hinv => by
    simp only [lastB, Bool.and_eq_true, decide_eq_true_eq] at hl
    have h1 : listed.getD m true = false := by
      have : m < listed.size := by omega
      simp [Array.getD, this] at hm ⊢; exact hm
    obtain ⟨_, h2⟩ := getD_false h1
    have : 0 < listed.toList.count false := List.count_pos_iff.2 (List.mem_of_getElem? h2)
    omega
  | fuel + 1, listed, vs, W, hs, hc, hm, hinv => by
    have hl' := hl
    simp only [lastB, Bool.and_eq_true, decide_eq_true_eq] at hl'
    obtain ⟨hsz, hla⟩ := hl'
    refine ⟨fun hr => ?_, fun i hi => ?_⟩
    · have := all_listed hb hs hr m (by omega)
      rw [hm] at this; cases this
    · obtain ⟨hli, o, ho, hall⟩ := mem_ready.1 hi
      have hilt := (Array.getElem?_eq_some_iff.1 ho).1
      have hset : ∀ j, j ≠ i → (listed.setIfInBounds i true).getD j false = listed.getD j false := fun j hj => by
        simp [Array.getD_eq_getD_getElem?, Ne.symm hj]
      by_cases him : i = m
      · subst him
        rw [ho] at hla
        have hothers : ∀ j, j < i → listed.getD j false = true := fun j hj => by
          have := List.all_eq_true.1 hla j (List.mem_range.2 hj)
          obtain ⟨e, he, h2⟩ := List.any_eq_true.1 this
          simp only [Bool.and_eq_true, beq_iff_eq] at h2
          obtain ⟨h3, rfl⟩ := h2
          exact hall e (by simpa using he) h3
        refine wpOp_step ho fun K hK => ?_
        refine hlast o ho vs W K hinv.1 (fun j hj => hinv.2 j (hothers j hj)) fun a' W' hQ => hK _ _ (wpAny_done (fun j hj => ?_) hQ fuel)
        by_cases hji : j = i
        · subst hji
          have : j < listed.size := by omega
          simp [Array.getD, this]
        · rw [hset j hji]; exact hothers j (by omega)
      · refine wpOp_step ho fun K hK => ?_
        refine hstep i o (by omega) ho vs W K hinv.1 (fun e he hbd => hinv.2 _ (hall e he hbd)) fun v W' hbl hr => hK _ _ ?_
        refine last_any R A m hb hl hR hstep hlast fuel _ (upd vs i v) W' (by simpa using hs) (count_down hli hc) (by rw [hset m (Ne.symm him)]; exact hm) ⟨hinv.1.trans (hbl.mono hinv.1.size), fun j hj => ?_⟩
        by_cases hji : j = i
        · subst hji
          simpa [upd] using hr
        · rw [hset j hji] at hj
          simp only [upd, if_neg hji]
          exact hR j _ W W' (hinv.2 j hj) hbl
end

section
variable {P : Program} {ops : Array Oper} {Q : Exit → Act → World → Prop} {md : Region.Mode}
/-- The region whose last operation (number m) waits for all others and may write. -/
theorem region_last {id : Nat} {a : Act} {w : World} (hm : P.follows .mixedOrders = true) (R : Nat → Value → World → Prop) (A : (Nat → Value) → Act) (vs : Nat → Value) (m : Nat) (ha : a = A vs) (hb : backB .any ops = true) (hl : lastB ops m = true)
    (hR : ∀ i v W W', R i v W → Below W.heap.size W W' → R i v W')
    (hstep : ∀ i o, i < m → ops[i]? = some o → StStep P Q ops R A w.drew i o) (hlast : ∀ o, ops[m]? = some o → StLast P Q ops R A w.drew m o) : (Code.region id ops true).wp P Q a w := by
  subst ha
  have hnone : ∀ i, (Array.replicate ops.size false).getD i false = false := fun i => by
    rcases Nat.lt_or_ge i ops.size with h | h
    · simp [Array.getD, h]
    · simp [Array.getD, Nat.not_lt.2 h]
  refine wp_region_any hm (last_any R A m hb hl hR hstep hlast ops.size _ vs w.drew (by simp) (by simp) (hnone m) ⟨Below.refl _ _, fun i hi => ?_⟩)
  rw [hnone i] at hi; cases hi
end

section
variable {P : Program} {ops : Array Oper} {Q : Exit → Act → World → Prop} {md : Region.Mode}
/-- What is known of an operation that one waits for. -/
theorem dep_of {o : Oper} {R : Nat → Value → World → Prop} {vs : Nat → Value} {W : World} (hD : ∀ e ∈ o.after, Region.binds .any e = true → R e.on (vs e.on) W) (j : Nat) (h : (o.after.toList.any fun e => Region.binds .any e && e.on == j) = true) : R j (vs j) W := by
  obtain ⟨e, he, h2⟩ := List.any_eq_true.1 h
  simp only [Bool.and_eq_true, beq_iff_eq] at h2
  obtain ⟨h3, rfl⟩ := h2
  exact hD e (by simpa using he) h3
end

section
variable {P : Program} {ops : Array Oper} {Q : Exit → Act → World → Prop} {md : Region.Mode}
/-- What is known: the values of the listed operations that no listed operation has used up. u i: the operation that uses up the value of i. -/
def UsInv (R : Nat → Value → World → Prop) (u : Nat → Option Nat) (w : World) (listed : Array Bool) (vs : Nat → Value) (W : World) : Prop :=
  Below w.heap.size w W ∧ ∀ i, listed.getD i false = true → (∀ j, u i = some j → listed.getD j false = false) → R i (vs i) W
end

section
variable {P : Program} {ops : Array Oper} {Q : Exit → Act → World → Prop} {md : Region.Mode}
/-- L lists pairs (j, i): operation j waits, through others perhaps, for operation i. -/
def waitB (ops : Array Oper) (L : List (Nat × Nat)) : Bool := L.all fun p => match ops[p.1]? with | some o => o.after.toList.any fun e => Region.binds .any e && (e.on == p.2 || L.contains (e.on, p.2)) | none => false
end

section
variable {P : Program} {ops : Array Oper} {Q : Exit → Act → World → Prop} {md : Region.Mode}
theorem waitB_spec {L : List (Nat × Nat)} (h : waitB ops L = true) {j i : Nat} (hL : (j, i) ∈ L) : ∃ o, ops[j]? = some o ∧ ∃ e ∈ o.after, Region.binds .any e = true ∧ (e.on = i ∨ (e.on, i) ∈ L) := by
  have h1 := List.all_eq_true.1 h _ hL
  dsimp only at h1
  split at h1
  · rename_i o ho
    obtain ⟨e, he, h2⟩ := List.any_eq_true.1 h1
    simp only [Bool.and_eq_true, Bool.or_eq_true, beq_iff_eq, List.contains_iff_mem] at h2
    exact ⟨o, ho, e, by simpa using he, h2.1, h2.2⟩
  · cases h1
end

section
variable {P : Program} {ops : Array Oper} {Q : Exit → Act → World → Prop} {md : Region.Mode}
/-- What is listed holds what it waits for. -/
def Closed (ops : Array Oper) (listed : Array Bool) : Prop := ∀ j o, listed.getD j false = true → ops[j]? = some o → ∀ e ∈ o.after, Region.binds .any e = true → listed.getD e.on false = true
end

section
variable {P : Program} {ops : Array Oper} {Q : Exit → Act → World → Prop} {md : Region.Mode}
theorem Closed.wait {L : List (Nat × Nat)} {listed : Array Bool} (hb : backB .any ops = true) (h : waitB ops L = true) (hc : Closed ops listed) {i : Nat} : ∀ j, listed.getD j false = true → (j, i) ∈ L → listed.getD i false = true := by
  intro j
  induction j using Nat.strongRecOn with
  | _ j ih =>
    intro hj hL
    obtain ⟨o, ho, e, he, hbd, h2⟩ := waitB_spec h hL
    have h3 := hc j o hj ho e he hbd
    rcases h2 with rfl | h2
    · exact h3
    · exact ih e.on (backB_spec hb ho e he hbd) h3 h2
end

section
variable {P : Program} {ops : Array Oper} {Q : Exit → Act → World → Prop} {md : Region.Mode}
/-- One operation. -/
def UsStep (P : Program) (Q : Exit → Act → World → Prop) (ops : Array Oper) (R : Nat → Value → World → Prop) (u : Nat → Option Nat) (L : List (Nat × Nat)) (A : (Nat → Value) → Act) (w : World) (i : Nat) (o : Oper) : Prop :=
  ∀ (vs : Nat → Value) (W : World) (K : Act → World → Prop), Below w.heap.size w W → (∀ e ∈ o.after, Region.binds .any e = true → (u e.on = none ∨ u e.on = some i) → R e.on (vs e.on) W) →
    (∀ v W', Below w.heap.size w W' → R i v W' → (∀ j x, j ≠ i → u j ≠ some i → (∀ k, u j = some k → (i, k) ∉ L) → (j, i) ∉ L → R j x W → R j x W') → K (A (upd vs i v)) W') →
    if Region.wanted o (yielded ops (A vs).tmps) = true then Oper.wp P o (A vs) W K Q else K ((A vs).put o.dst undef) W
end

section
variable {P : Program} {ops : Array Oper} {Q : Exit → Act → World → Prop} {md : Region.Mode}
/-- The last operation, which may write. -/
def UsLast (P : Program) (Q : Exit → Act → World → Prop) (ops : Array Oper) (R : Nat → Value → World → Prop) (u : Nat → Option Nat) (A : (Nat → Value) → Act) (w : World) (m : Nat) (o : Oper) : Prop :=
  ∀ (vs : Nat → Value) (W : World) (K : Act → World → Prop), Below w.heap.size w W → (∀ i, i < m → u i = none → R i (vs i) W) → (∀ a' W', Q .normal a' W' → K a' W') →
    if Region.wanted o (yielded ops (A vs).tmps) = true then Oper.wp P o (A vs) W K Q else K ((A vs).put o.dst undef) W
end

section
variable {P : Program} {ops : Array Oper} {Q : Exit → Act → World → Prop} {md : Region.Mode}
theorem set_getD {l : Array Bool} {i j : Nat} (h : j ≠ i) : (l.setIfInBounds i true).getD j false = l.getD j false := by
  simp [Array.getD_eq_getD_getElem?, Ne.symm h]
end

section
variable {P : Program} {ops : Array Oper} {Q : Exit → Act → World → Prop} {md : Region.Mode}
theorem set_getD_self {l : Array Bool} {i : Nat} (h : i < l.size) : (l.setIfInBounds i true).getD i false = true := by
  simp [Array.getD, h]
end

section
variable {P : Program} {ops : Array Oper} {Q : Exit → Act → World → Prop} {md : Region.Mode}
theorem getD_not {l : Array Bool} {i : Nat} (h : l.getD i true = false) : l.getD i false = false := by
  rcases Nat.lt_or_ge i l.size with hi | hi
  · simp [Array.getD, hi] at h ⊢; exact h
  · simp [Array.getD, Nat.not_lt.2 hi]
end

section
variable {P : Program} {ops : Array Oper} {Q : Exit → Act → World → Prop} {md : Region.Mode}
theorem use_any (R : Nat → Value → World → Prop) (u : Nat → Option Nat) (L : List (Nat × Nat)) (A : (Nat → Value) → Act) {w : World} (m : Nat) (hb : backB .any ops = true) (hw : waitB ops L = true) (hl : lastB ops m = true)
    (hstep : ∀ i o, i < m → ops[i]? = some o → UsStep P Q ops R u L A w i o) (hlast : ∀ o, ops[m]? = some o → UsLast P Q ops R u A w m o) :
    ∀ (fuel : Nat) (listed : Array Bool) (vs : Nat → Value) (W : World), listed.size = ops.size → listed.toList.count false ≤ fuel → listed.getD m false = false → Closed ops listed → UsInv R u w listed vs W → wpAny P .any ops Q fuel listed (A vs) W
  | 0, listed, vs, W, hs, hc, hm, hcl, hinv => by
    simp only [lastB, Bool.and_eq_true, decide_eq_true_eq] at hl
    have h1 : listed.getD m true = false := by
      have : m < listed.size := by omega
      simp [Array.getD, this] at hm ⊢; exact hm
    obtain ⟨_, h2⟩ := getD_false h1
    have : 0 < listed.toList.count false := List.count_pos_iff.2 (List.mem_of_getElem? h2)
    omega
  | fuel + 1, listed, vs, W, hs, hc, hm, hcl, hinv => by
    have hl' := hl
    simp only [lastB, Bool.and_eq_true, decide_eq_true_eq] at hl'
    obtain ⟨hsz, hla⟩ := hl'
    refine ⟨fun hr => ?_, fun i hi => ?_⟩
    · have := all_listed hb hs hr m (by omega)
      rw [hm] at this; cases this
    · obtain ⟨hli, o, ho, hall⟩ := mem_ready.1 hi
      have hilt := (Array.getElem?_eq_some_iff.1 ho).1
      by_cases him : i = m
      · subst him
        rw [ho] at hla
        have hothers : ∀ j, j < i → listed.getD j false = true := fun j hj => by
          have := List.all_eq_true.1 hla j (List.mem_range.2 hj)
          obtain ⟨e, he, h2⟩ := List.any_eq_true.1 this
          simp only [Bool.and_eq_true, beq_iff_eq] at h2
          obtain ⟨h3, rfl⟩ := h2
          exact hall e (by simpa using he) h3
        refine wpOp_step ho fun K hK => ?_
        refine hlast o ho vs W K hinv.1 (fun j hj hu => hinv.2 j (hothers j hj) fun k hk => by rw [hu] at hk; cases hk) fun a' W' hQ => hK _ _ (wpAny_done (fun j hj => ?_) hQ fuel)
        by_cases hji : j = i
        · subst hji
          exact set_getD_self (by omega)
        · rw [set_getD hji]; exact hothers j (by omega)
      · refine wpOp_step ho fun K hK => ?_
        refine hstep i o (by omega) ho vs W K hinv.1 (fun e he hbd hu => hinv.2 _ (hall e he hbd) fun j hj => ?_) fun v W' hbl hr hkeep => hK _ _ ?_
        · rcases hu with hu | hu
          · rw [hu] at hj; cases hj
          · rw [hu] at hj; cases hj; exact getD_not hli
        refine use_any R u L A m hb hw hl hstep hlast fuel _ (upd vs i v) W' (by simpa using hs) (count_down hli hc) (by rw [set_getD (Ne.symm him)]; exact hm) (fun j o' hj ho' e he hbd => ?_) ⟨hbl, fun j hj hcons => ?_⟩
        · have h1 : listed.getD e.on false = true := by
            by_cases hji : j = i
            · subst hji; rw [ho] at ho'; cases ho'; exact hall e he hbd
            · rw [set_getD hji] at hj; exact hcl j o' hj ho' e he hbd
          by_cases hei : e.on = i
          · rw [hei]; exact set_getD_self (by omega)
          · rw [set_getD hei]; exact h1
        by_cases hji : j = i
        · subst hji
          simpa [upd] using hr
        · rw [set_getD hji] at hj
          simp only [upd, if_neg hji]
          have hne : u j ≠ some i := fun he => by
            have := hcons i he
            rw [set_getD_self (by omega)] at this; cases this
          refine hkeep j _ hji hne (fun k hk hL => ?_) (fun hL => ?_) (hinv.2 j hj fun k hk => ?_)
          · obtain ⟨o2, ho2, e, he, hbd, h2⟩ := waitB_spec hw hL
            rw [ho] at ho2; cases ho2
            have h3 := hall e he hbd
            have h4 : listed.getD k false = true := by
              rcases h2 with rfl | h2
              · exact h3
              · exact hcl.wait hb hw _ h3 h2
            have h5 := hcons k hk
            have hki : k ≠ i := fun hh => hne (hh ▸ hk)
            rw [set_getD hki, h4] at h5; cases h5
          · have h4 := hcl.wait hb hw j hj hL
            rw [getD_not hli] at h4; cases h4
          have h1 := hcons k hk
          by_cases hki : k = i
          · subst hki; exact absurd hk hne
          · rwa [set_getD hki] at h1
end

section
variable {P : Program} {ops : Array Oper} {Q : Exit → Act → World → Prop} {md : Region.Mode}
/-- The region whose last operation (number m) waits for all others and may write, and where u tells who uses up which value. -/
theorem region_use {id : Nat} {a : Act} {w : World} (hm : P.follows .mixedOrders = true) (R : Nat → Value → World → Prop) (u : Nat → Option Nat) (L : List (Nat × Nat)) (A : (Nat → Value) → Act) (vs : Nat → Value) (m : Nat) (ha : a = A vs) (hb : backB .any ops = true) (hw : waitB ops L = true) (hl : lastB ops m = true)
    (hstep : ∀ i o, i < m → ops[i]? = some o → UsStep P Q ops R u L A w.drew i o) (hlast : ∀ o, ops[m]? = some o → UsLast P Q ops R u A w.drew m o) : (Code.region id ops true).wp P Q a w := by
  subst ha
  have hnone : ∀ i, (Array.replicate ops.size false).getD i false = false := fun i => by
    rcases Nat.lt_or_ge i ops.size with h | h
    · simp [Array.getD, h]
    · simp [Array.getD, Nat.not_lt.2 h]
  refine wp_region_any hm (use_any R u L A m hb hw hl hstep hlast ops.size _ vs w.drew (by simp) (by simp) (hnone m) (fun j o hj => by rw [hnone j] at hj; cases hj) ⟨Below.refl _ _, fun i hi => ?_⟩)
  rw [hnone i] at hi; cases hi
end

section
variable {P : Program} {ops : Array Oper} {Q : Exit → Act → World → Prop} {md : Region.Mode}
/-- What is known of an operation that one waits for. -/
theorem dep_use {o : Oper} {R : Nat → Value → World → Prop} {u : Nat → Option Nat} {vs : Nat → Value} {W : World} {i : Nat} (hD : ∀ e ∈ o.after, Region.binds .any e = true → (u e.on = none ∨ u e.on = some i) → R e.on (vs e.on) W) (j : Nat) (h : (o.after.toList.any fun e => Region.binds .any e && e.on == j) = true) (hu : u j = none ∨ u j = some i) : R j (vs j) W := by
  obtain ⟨e, he, h2⟩ := List.any_eq_true.1 h
  simp only [Bool.and_eq_true, beq_iff_eq] at h2
  obtain ⟨h3, rfl⟩ := h2
  exact hD e (by simpa using he) h3 hu
end

section
variable {P : Program} {ops : Array Oper} {Q : Exit → Act → World → Prop} {md : Region.Mode}
/-- An operation that writes nothing that was there. -/
theorem use_plain {R : Nat → Value → World → Prop} {u : Nat → Option Nat} {L : List (Nat × Nat)} {w W : World} {i : Nat} {C : Value → World → Prop} (hR : ∀ i v W W', R i v W → Below W.heap.size W W' → R i v W') (hB : Below w.heap.size w W)
    (hK : ∀ v W', Below w.heap.size w W' → R i v W' → (∀ j x, j ≠ i → u j ≠ some i → (∀ k, u j = some k → (i, k) ∉ L) → (j, i) ∉ L → R j x W → R j x W') → C v W') : ∀ v W', Below W.heap.size W W' → R i v W' → C v W' :=
  fun v W' hb hr => hK v W' (hB.trans (hb.mono hB.size)) hr fun j x _ _ _ _ h => hR j x W W' h hb
end

section
variable {P : Program} {ops : Array Oper} {Q : Exit → Act → World → Prop}
/-- Operation j waits for operation i. -/
def waitsB (ops : Array Oper) (i j : Nat) : Bool := match ops[j]? with | some o => o.after.toList.any (fun e => Region.binds .any e && e.on == i) | none => false
end

section
variable {P : Program} {ops : Array Oper} {Q : Exit → Act → World → Prop}
theorem waits_spec {i j : Nat} (h : waitsB ops i j = true) : ∃ o, ops[j]? = some o ∧ ∃ e ∈ o.after, Region.binds .any e = true ∧ e.on = i := by
  unfold waitsB at h
  split at h
  · rename_i o ho
    obtain ⟨e, he, h2⟩ := List.any_eq_true.1 h
    simp only [Bool.and_eq_true, beq_iff_eq] at h2
    exact ⟨o, ho, e, by simpa using he, h2.1, h2.2⟩
  · cases h
end

section
variable {P : Program} {ops : Array Oper} {Q : Exit → Act → World → Prop}
def StStep0 (P : Program) (Q : Exit → Act → World → Prop) (ops : Array Oper) (R : Nat → Value → World → Prop) (A : (Nat → Value) → Act) (vs0 : Nat → Value) (w : World) (i : Nat) (o : Oper) : Prop :=
  ∀ (vs : Nat → Value) (W : World) (K : Act → World → Prop), Below w.heap.size w W → (∀ e ∈ o.after, Region.binds .any e = true → R e.on (vs e.on) W) → (∀ j, waitsB ops i j = true → vs j = vs0 j) →
    (∀ v W', Below W.heap.size W W' → R i v W' → K (A (upd vs i v)) W') →
    if Region.wanted o (yielded ops (A vs).tmps) = true then Oper.wp P o (A vs) W K Q else K ((A vs).put o.dst undef) W
end

section
variable {P : Program} {ops : Array Oper} {Q : Exit → Act → World → Prop}
theorem stable_any0 (R : Nat → Value → World → Prop) (A : (Nat → Value) → Act) (vs0 : Nat → Value) {w : World} (hb : backB .any ops = true) (hR : ∀ i v W W', R i v W → Below W.heap.size W W' → R i v W')
    (hstep : ∀ i o, ops[i]? = some o → StStep0 P Q ops R A vs0 w i o)
    (hfin : ∀ vs W, Below w.heap.size w W → (∀ i, i < ops.size → R i (vs i) W) → Q .normal (A vs) W) :
    ∀ (fuel : Nat) (listed : Array Bool) (vs : Nat → Value) (W : World), listed.size = ops.size → listed.toList.count false ≤ fuel → StInv R w listed vs W → (∀ i, listed.getD i false = false → vs i = vs0 i) →
      (∀ j o, ops[j]? = some o → listed.getD j false = true → ∀ e ∈ o.after, Region.binds .any e = true → listed.getD e.on false = true) → wpAny P .any ops Q fuel listed (A vs) W
  | 0, listed, vs, W, hs, hc, hinv, _, _ => by
    have hno : ∀ j, ¬ listed.getD j true = false := fun j h => by
      obtain ⟨_, h2⟩ := getD_false h
      have : 0 < listed.toList.count false := List.count_pos_iff.2 (List.mem_of_getElem? h2)
      omega
    have hr : Region.ready .any ops listed = [] := List.eq_nil_iff_forall_not_mem.2 fun j hj => hno j (mem_ready.1 hj).1
    exact ⟨hr, hfin vs W hinv.1 fun i hi => hinv.2 i (all_listed hb hs hr i hi)⟩
  | fuel + 1, listed, vs, W, hs, hc, hinv, hun, hcl => by
    refine ⟨fun hr => hfin vs W hinv.1 fun i hi => hinv.2 i (all_listed hb hs hr i hi), fun i hi => ?_⟩
    obtain ⟨hl, o, ho, hall⟩ := mem_ready.1 hi
    have hli : listed.getD i false = false := by
      obtain ⟨h1, h2⟩ := getD_false hl
      simp [Array.getD, h1] at hl ⊢
      exact hl
    have hmono : ∀ j, listed.getD j false = true → (listed.setIfInBounds i true).getD j false = true := fun j hj => by
      by_cases hji : j = i
      · subst hji; rw [hli] at hj; cases hj
      · have : (listed.setIfInBounds i true).getD j false = listed.getD j false := by
          simp [Array.getD_eq_getD_getElem?, Ne.symm hji]
        rw [this]; exact hj
    refine wpOp_step ho fun K hK => ?_
    refine hstep i o ho vs W K hinv.1 (fun e he hbd => hinv.2 _ (hall e he hbd)) (fun j hj => ?_) fun v W' hbl hr => hK _ _ ?_
    · obtain ⟨o', ho', e, he, hbd, hon⟩ := waits_spec hj
      refine hun j ?_
      cases hlj : listed.getD j false with
      | false => rfl
      | true =>
        have := hcl j o' ho' hlj e he hbd
        rw [hon, hli] at this
        cases this
    refine stable_any0 R A vs0 hb hR hstep hfin fuel _ (upd vs i v) W' (by simpa using hs) (count_down hl hc) ⟨hinv.1.trans (hbl.mono hinv.1.size), fun j hj => ?_⟩ (fun j hj => ?_) (fun j o' ho' hj e he hbd => ?_)
    · by_cases hji : j = i
      · subst hji
        simpa [upd] using hr
      · have hj' : listed.getD j false = true := by
          have : (listed.setIfInBounds i true).getD j false = listed.getD j false := by
            simp [Array.getD_eq_getD_getElem?, Ne.symm hji]
          rwa [this] at hj
        simp only [upd, if_neg hji]
        exact hR j _ W W' (hinv.2 j hj') hbl
    · by_cases hji : j = i
      · subst hji
        obtain ⟨h1, _⟩ := getD_false hl
        simp [Array.getD, h1] at hj
      · have : (listed.setIfInBounds i true).getD j false = listed.getD j false := by
          simp [Array.getD_eq_getD_getElem?, Ne.symm hji]
        rw [this] at hj
        simp only [upd, if_neg hji]
        exact hun j hj
    · by_cases hji : j = i
      · subst hji
        rw [ho] at ho'
        cases ho'
        exact hmono _ (hall e he hbd)
      · have : (listed.setIfInBounds i true).getD j false = listed.getD j false := by
          simp [Array.getD_eq_getD_getElem?, Ne.symm hji]
        rw [this] at hj
        exact hmono _ (hcl j o' ho' hj e he hbd)
end

section
variable {P : Program} {ops : Array Oper} {Q : Exit → Act → World → Prop}
theorem region_stable0 {id : Nat} {a : Act} {w : World} (hm : P.follows .mixedOrders = true) (R : Nat → Value → World → Prop) (A : (Nat → Value) → Act) (vs : Nat → Value) (ha : a = A vs) (hb : backB .any ops = true)
    (hR : ∀ i v W W', R i v W → Below W.heap.size W W' → R i v W')
    (hstep : ∀ i o, ops[i]? = some o → StStep0 P Q ops R A vs w.drew i o)
    (hfin : ∀ vs W, Below w.drew.heap.size w.drew W → (∀ i, i < ops.size → R i (vs i) W) → Q .normal (A vs) W) : (Code.region id ops true).wp P Q a w := by
  subst ha
  have hno : ∀ i, (Array.replicate ops.size false).getD i false = false := fun i => by
    rcases Nat.lt_or_ge i ops.size with h | h
    · simp [Array.getD, h]
    · simp [Array.getD, Nat.not_lt.2 h]
  refine wp_region_any hm (stable_any0 R A vs hb hR hstep hfin ops.size _ vs w.drew (by simp) ?_ ⟨Below.refl _ _, fun i hi => ?_⟩ (fun _ _ => rfl) (fun j o _ hj => ?_))
  · simp
  · exfalso
    have := hno i
    rw [this] at hi; cases hi
  · exfalso
    have := hno j
    rw [this] at hj; cases hj
end

section
variable {F : Fence} {n : Nat} {P : Program} {ops : Array Oper} {Q : Exit → Act → World → Prop}
/-- L lists pairs (j, i): operation j waits, through others perhaps, for operation i. -/
def waitF (ops : Array Oper) (L : List (Nat × Nat)) : Bool := L.all fun p => match ops[p.1]? with | some o => o.after.toList.any fun e => Region.binds .any e && (e.on == p.2 || L.contains (e.on, p.2)) | none => false
end

section
variable {F : Fence} {n : Nat} {P : Program} {ops : Array Oper} {Q : Exit → Act → World → Prop}
theorem waitF_spec {L : List (Nat × Nat)} (h : waitF ops L = true) {j i : Nat} (hL : (j, i) ∈ L) : ∃ o, ops[j]? = some o ∧ ∃ e ∈ o.after, Region.binds .any e = true ∧ (e.on = i ∨ (e.on, i) ∈ L) := by
  have h1 := List.all_eq_true.1 h _ hL
  dsimp only at h1
  split at h1
  · rename_i o ho
    obtain ⟨e, he, h2⟩ := List.any_eq_true.1 h1
    simp only [Bool.and_eq_true, Bool.or_eq_true, beq_iff_eq, List.contains_iff_mem] at h2
    exact ⟨o, ho, e, by simpa using he, h2.1, h2.2⟩
  · cases h1
end

section
variable {F : Fence} {n : Nat} {P : Program} {ops : Array Oper} {Q : Exit → Act → World → Prop}
/-- What is listed holds what it waits for. -/
def ClosedF (ops : Array Oper) (listed : Array Bool) : Prop := ∀ j o, listed.getD j false = true → ops[j]? = some o → ∀ e ∈ o.after, Region.binds .any e = true → listed.getD e.on false = true
end

section
variable {F : Fence} {n : Nat} {P : Program} {ops : Array Oper} {Q : Exit → Act → World → Prop}
theorem ClosedF.wait {L : List (Nat × Nat)} {listed : Array Bool} (hb : backB .any ops = true) (h : waitF ops L = true) (hc : ClosedF ops listed) {i : Nat} : ∀ j, listed.getD j false = true → (j, i) ∈ L → listed.getD i false = true := by
  intro j
  induction j using Nat.strongRecOn with
  | _ j ih =>
    intro hj hL
    obtain ⟨o, ho, e, he, hbd, h2⟩ := waitF_spec h hL
    have h3 := hc j o hj ho e he hbd
    rcases h2 with rfl | h2
    · exact h3
    · exact ih e.on (backB_spec hb ho e he hbd) h3 h2
end

section
variable {F : Fence} {n : Nat} {P : Program} {ops : Array Oper} {Q : Exit → Act → World → Prop}
/-- One operation, where operation m uses up what E tells; what waits for this one holds its old value. -/
def FeStep (F : Fence) (n : Nat) (P : Program) (Q : Exit → Act → World → Prop) (ops : Array Oper) (R : Nat → Value → World → Prop) (B0 E : World → Prop) (m : Nat) (L : List (Nat × Nat)) (v0 : Nat → Value) (A : (Nat → Value) → Act) (i : Nat) (o : Oper) : Prop :=
  ∀ (vs : Nat → Value) (W : World) (K : Act → World → Prop), B0 W → (i = m → E W) → (∀ e ∈ o.after, Region.binds .any e = true → R e.on (vs e.on) W) → (∀ j, (j, i) ∈ L → vs j = v0 j) →
    (∀ v W', B0 W' → (i ≠ m → E W → E W') → (∀ j x, j ≠ i → (j, i) ∉ L → R j x W → R j x W') → R i v W' → K (A (upd vs i v)) W') →
    if Region.wanted o (yielded ops (A vs).tmps) = true then Oper.wpIn F n P o (A vs) W K Q else (∀ f, o.about P W (A vs).eval = some f → F.fn f) ∧ K ((A vs).put o.dst undef) W
end

section
variable {F : Fence} {n : Nat} {P : Program} {ops : Array Oper} {Q : Exit → Act → World → Prop}
theorem freeE_any (R : Nat → Value → World → Prop) (B0 E : World → Prop) (m : Nat) (L : List (Nat × Nat)) (v0 : Nat → Value) (A : (Nat → Value) → Act) (hb : backB .any ops = true) (hw : waitF ops L = true)
    (hstep : ∀ i o, ops[i]? = some o → FeStep F n P Q ops R B0 E m L v0 A i o)
    (hfin : ∀ vs W, B0 W → (∀ i, i < ops.size → R i (vs i) W) → Q .normal (A vs) W) :
    ∀ (fuel : Nat) (listed : Array Bool) (vs : Nat → Value) (W : World), listed.size = ops.size → listed.toList.count false ≤ fuel → ClosedF ops listed → (∀ j, listed.getD j false = false → vs j = v0 j) →
      (B0 W ∧ (listed.getD m false = false → E W) ∧ ∀ i, listed.getD i false = true → R i (vs i) W) → wpAnyIn F n P .any ops Q fuel listed (A vs) W
  | 0, listed, vs, W, hs, hc, _, _, hinv => by
    have hno : ∀ j, ¬ listed.getD j true = false := fun j h => by
      obtain ⟨_, h2⟩ := getD_false h
      have : 0 < listed.toList.count false := List.count_pos_iff.2 (List.mem_of_getElem? h2)
      omega
    have hr : Region.ready .any ops listed = [] := List.eq_nil_iff_forall_not_mem.2 fun j hj => hno j (mem_ready.1 hj).1
    exact ⟨hr, hfin vs W hinv.1 fun i hi => hinv.2.2 i (all_listed hb hs hr i hi)⟩
  | fuel + 1, listed, vs, W, hs, hc, hcl, hv0, hinv => by
    refine ⟨fun hr => hfin vs W hinv.1 fun i hi => hinv.2.2 i (all_listed hb hs hr i hi), fun i hi => ?_⟩
    obtain ⟨hl, o, ho, hall⟩ := mem_ready.1 hi
    have hl' : listed.getD i false = false := by
      obtain ⟨h1, -⟩ := getD_false hl
      simp [Array.getD, h1] at hl ⊢; exact hl
    have hset : ∀ j, j ≠ i → (listed.setIfInBounds i true).getD j false = listed.getD j false := fun j hj => by
      simp [Array.getD_eq_getD_getElem?, Ne.symm hj]
    have hself : (listed.setIfInBounds i true).getD i false = true := by
      obtain ⟨h1, -⟩ := getD_false hl
      simp [Array.getD, h1]
    refine wpOpIn_step ho fun K hK => ?_
    refine hstep i o ho vs W K hinv.1 (fun e => hinv.2.1 (by subst e; exact hl')) (fun e he hbd => hinv.2.2 _ (hall e he hbd)) (fun j hj => hv0 j ?_) fun v W' hbl hE hk hr => hK _ _ ?_
    · cases hlj : listed.getD j false with
      | false => rfl
      | true =>
        have := ClosedF.wait hb hw hcl j hlj hj
        rw [hl'] at this; cases this
    refine freeE_any R B0 E m L v0 A hb hw hstep hfin fuel _ (upd vs i v) W' (by simpa using hs) (count_down hl hc) (fun j o' hj ho' e he hbd => ?_) (fun j hj => ?_) ⟨hbl, fun hm => ?_, fun j hj => ?_⟩
    · by_cases hei : e.on = i
      · rw [hei]; exact hself
      · rw [hset _ hei]
        by_cases hji : j = i
        · subst hji
          rw [ho] at ho'
          cases ho'
          exact hall e he hbd
        · rw [hset j hji] at hj
          exact hcl j o' hj ho' e he hbd
    · by_cases hji : j = i
      · subst hji; rw [hself] at hj; cases hj
      · rw [hset j hji] at hj
        simp only [upd, if_neg hji]
        exact hv0 j hj
    · by_cases him : i = m
      · subst him
        rw [hself] at hm; cases hm
      · rw [hset m (Ne.symm him)] at hm
        exact hE him (hinv.2.1 hm)
    · by_cases hji : j = i
      · subst hji
        simpa [upd] using hr
      · rw [hset j hji] at hj
        simp only [upd, if_neg hji]
        refine hk j _ hji (fun hL => ?_) (hinv.2.2 j hj)
        have := ClosedF.wait hb hw hcl j hj hL
        rw [hl'] at this; cases this
end

section
variable {F : Fence} {n : Nat} {P : Program} {ops : Array Oper} {Q : Exit → Act → World → Prop}
/-- The region where operation m uses up what E tells. -/
theorem region_freeE {id : Nat} {a : Act} {w : World} (hm : P.follows .mixedOrders = true) (R : Nat → Value → World → Prop) (B0 E : World → Prop) (m : Nat) (L : List (Nat × Nat)) (A : (Nat → Value) → Act) (v0 : Nat → Value) (ha : a = A v0) (hb : backB .any ops = true) (hw : waitF ops L = true) (h0 : B0 w.drew) (hE : E w.drew)
    (hstep : ∀ i o, ops[i]? = some o → FeStep F n P Q ops R B0 E m L v0 A i o)
    (hfin : ∀ vs W, B0 W → (∀ i, i < ops.size → R i (vs i) W) → Q .normal (A vs) W) : (Code.region id ops true).wpIn F n P Q a w := by
  subst ha
  have hno : ∀ i, (Array.replicate ops.size false).getD i false = false := fun i => by
    rcases Nat.lt_or_ge i ops.size with h | h
    · simp [Array.getD, h]
    · simp [Array.getD, Nat.not_lt.2 h]
  refine wpIn_region_any hm (freeE_any R B0 E m L v0 A hb hw hstep hfin ops.size _ v0 w.drew (by simp) (by simp) (fun j o hj => ?_) (fun _ _ => rfl) ⟨h0, fun _ => hE, fun i hi => ?_⟩)
  · rw [hno j] at hj; cases hj
  · rw [hno i] at hi; cases hi
end

section
variable {P : Program} {ops : Array Oper} {Q : Exit → Act → World → Prop}
/-- A set of operations with one more. -/
def upS (S : Nat → Bool) (i : Nat) : Nat → Bool := fun j => if j = i then true else S j
end

section
variable {P : Program} {ops : Array Oper} {Q : Exit → Act → World → Prop}
/-- What a set that may be listed is like. -/
def Cl (ops : Array Oper) (S : Nat → Bool) : Prop := ∀ i j, waitsB ops i j = true → S j = true → S i = true
end

section
variable {P : Program} {ops : Array Oper} {Q : Exit → Act → World → Prop}
/-- One operation. -/
def JStep (P : Program) (Q : Exit → Act → World → Prop) (ops : Array Oper) (J : (Nat → Bool) → (Nat → Value) → World → Prop) (A : (Nat → Value) → Act) (i : Nat) (o : Oper) : Prop :=
  ∀ (S : Nat → Bool) (vs : Nat → Value) (W : World) (K : Act → World → Prop), S i = false → (∀ j, waitsB ops j i = true → S j = true) → Cl ops S → J S vs W →
    (∀ v W', J (upS S i) (upd vs i v) W' → K (A (upd vs i v)) W') →
    if Region.wanted o (yielded ops (A vs).tmps) = true then Oper.wp P o (A vs) W K Q else K ((A vs).put o.dst undef) W
end

section
variable {P : Program} {ops : Array Oper} {Q : Exit → Act → World → Prop}
theorem inv_any (J : (Nat → Bool) → (Nat → Value) → World → Prop) (A : (Nat → Value) → Act) (hb : backB .any ops = true)
    (hstep : ∀ i o, ops[i]? = some o → JStep P Q ops J A i o)
    (hfin : ∀ S vs W, (∀ i, i < ops.size → S i = true) → J S vs W → Q .normal (A vs) W) :
    ∀ (fuel : Nat) (listed : Array Bool) (vs : Nat → Value) (W : World), listed.size = ops.size → listed.toList.count false ≤ fuel → J (fun i => listed.getD i false) vs W →
      (∀ j o, ops[j]? = some o → listed.getD j false = true → ∀ e ∈ o.after, Region.binds .any e = true → listed.getD e.on false = true) → wpAny P .any ops Q fuel listed (A vs) W
  | 0, listed, vs, W, hs, hc, hinv, _ => by
    have hno : ∀ j, ¬ listed.getD j true = false := fun j h => by
      obtain ⟨_, h2⟩ := getD_false h
      have : 0 < listed.toList.count false := List.count_pos_iff.2 (List.mem_of_getElem? h2)
      omega
    have hr : Region.ready .any ops listed = [] := List.eq_nil_iff_forall_not_mem.2 fun j hj => hno j (mem_ready.1 hj).1
    exact ⟨hr, hfin _ vs W (fun i hi => all_listed hb hs hr i hi) hinv⟩
  | fuel + 1, listed, vs, W, hs, hc, hinv, hcl => by
    refine ⟨fun hr => hfin _ vs W (fun i hi => all_listed hb hs hr i hi) hinv, fun i hi => ?_⟩
    obtain ⟨hl, o, ho, hall⟩ := mem_ready.1 hi
    have hli : listed.getD i false = false := by
      obtain ⟨h1, h2⟩ := getD_false hl
      simp [Array.getD, h1] at hl ⊢
      exact hl
    have hset : (fun j => (listed.setIfInBounds i true).getD j false) = upS (fun j => listed.getD j false) i := funext fun j => by
      by_cases hji : j = i
      · subst hji
        obtain ⟨h1, _⟩ := getD_false hl
        simp [upS, Array.getD, h1]
      · simp [upS, Array.getD_eq_getD_getElem?, Ne.symm hji, hji]
    refine wpOp_step ho fun K hK => ?_
    refine hstep i o ho (fun j => listed.getD j false) vs W K hli (fun j hj => ?_) (fun a b hab hb' => ?_) hinv fun v W' hJ => hK _ _ ?_
    · obtain ⟨o', ho', e, he, hbd, hon⟩ := waits_spec hj
      rw [ho] at ho'
      cases ho'
      rw [← hon]
      exact hall e he hbd
    · obtain ⟨o', ho', e, he, hbd, hon⟩ := waits_spec hab
      rw [← hon]
      exact hcl b o' ho' hb' e he hbd
    refine inv_any J A hb hstep hfin fuel _ (upd vs i v) W' (by simpa using hs) (count_down hl hc) (by rw [hset]; exact hJ) (fun j o' ho' hj e he hbd => ?_)
    have hj2 : upS (fun j => listed.getD j false) i j = true := by rw [← hset]; exact hj
    show (fun j => (listed.setIfInBounds i true).getD j false) e.on = true
    rw [hset]
    unfold upS at hj2 ⊢
    by_cases hei : e.on = i
    · rw [if_pos hei]
    · rw [if_neg hei]
      by_cases hji : j = i
      · subst hji
        rw [ho] at ho'
        cases ho'
        exact hall e he hbd
      · rw [if_neg hji] at hj2
        exact hcl j o' ho' hj2 e he hbd
end

section
variable {P : Program} {ops : Array Oper} {Q : Exit → Act → World → Prop}
/-- The region, told by one invariant. -/
theorem region_inv {id : Nat} {a : Act} {w : World} (hm : P.follows .mixedOrders = true) (J : (Nat → Bool) → (Nat → Value) → World → Prop) (A : (Nat → Value) → Act) (vs : Nat → Value) (ha : a = A vs) (hb : backB .any ops = true)
    (h0 : J (fun _ => false) vs w.drew)
    (hstep : ∀ i o, ops[i]? = some o → JStep P Q ops J A i o)
    (hfin : ∀ S vs W, (∀ i, i < ops.size → S i = true) → J S vs W → Q .normal (A vs) W) : (Code.region id ops true).wp P Q a w := by
  subst ha
  have hno : ∀ i, (Array.replicate ops.size false).getD i false = false := fun i => by
    rcases Nat.lt_or_ge i ops.size with h | h
    · simp [Array.getD, h]
    · simp [Array.getD, Nat.not_lt.2 h]
  refine wp_region_any hm (inv_any J A hb hstep hfin ops.size _ vs w.drew (by simp) ?_ ?_ (fun j o _ hj => ?_))
  · simp
  · rw [show (fun i => (Array.replicate ops.size false).getD i false) = fun _ => false from funext hno]; exact h0
  · exfalso
    have := hno j
    rw [this] at hj; cases hj
end

section
variable {P : Program} {ops : Array Oper} {Q : Exit → Act → World → Prop}
/-- T: the operations that are told together, by J; the others leave values that R tells and that stay as long as nothing below B is written. -/
def TInvJ (B : Nat) (w : World) (T : Nat → Bool) (R : Nat → Value → World → Prop) (J : (Nat → Bool) → (Nat → Value) → World → Prop) (S : Nat → Bool) (vs : Nat → Value) (W : World) : Prop :=
  Below B w W ∧ (∀ i, T i = false → S i = true → R i (vs i) W) ∧ J S vs W
end

section
variable {P : Program} {ops : Array Oper} {Q : Exit → Act → World → Prop}
/-- An operation that is told by itself. -/
def TPlain (P : Program) (Q : Exit → Act → World → Prop) (ops : Array Oper) (B : Nat) (w : World) (R : Nat → Value → World → Prop) (T : Nat → Bool) (J : (Nat → Bool) → (Nat → Value) → World → Prop) (A : (Nat → Value) → Act) (i : Nat) (o : Oper) : Prop :=
  ∀ (S : Nat → Bool) (vs : Nat → Value) (W : World) (K : Act → World → Prop), Below B w W → (∀ j, waitsB ops j i = true → S j = true) → (∀ j, T j = false → waitsB ops j i = true → R j (vs j) W) → J S vs W →
    (∀ v W', Below W.heap.size W W' → R i v W' → K (A (upd vs i v)) W') →
    if Region.wanted o (yielded ops (A vs).tmps) = true then Oper.wp P o (A vs) W K Q else K ((A vs).put o.dst undef) W
end

section
variable {P : Program} {ops : Array Oper} {Q : Exit → Act → World → Prop}
/-- An operation of those told together. -/
def TTied (P : Program) (Q : Exit → Act → World → Prop) (ops : Array Oper) (B : Nat) (w : World) (R : Nat → Value → World → Prop) (T : Nat → Bool) (J : (Nat → Bool) → (Nat → Value) → World → Prop) (A : (Nat → Value) → Act) (i : Nat) (o : Oper) : Prop :=
  ∀ (S : Nat → Bool) (vs : Nat → Value) (W : World) (K : Act → World → Prop), Below B w W → S i = false → (∀ j, waitsB ops j i = true → S j = true) → Cl ops S → (∀ j, T j = false → waitsB ops j i = true → R j (vs j) W) → J S vs W →
    (∀ v W', Below B w W' → (∀ j x, T j = false → R j x W → R j x W') → J (upS S i) (upd vs i v) W' → K (A (upd vs i v)) W') →
    if Region.wanted o (yielded ops (A vs).tmps) = true then Oper.wp P o (A vs) W K Q else K ((A vs).put o.dst undef) W
end

section
variable {P : Program} {ops : Array Oper} {Q : Exit → Act → World → Prop}
theorem region_tied {id : Nat} {a : Act} {w : World} (hm : P.follows .mixedOrders = true) (T : Nat → Bool) (R : Nat → Value → World → Prop) (J : (Nat → Bool) → (Nat → Value) → World → Prop) (A : (Nat → Value) → Act) (vs : Nat → Value) (ha : a = A vs) (hb : backB .any ops = true)
    (hR : ∀ i v W W', R i v W → Below W.heap.size W W' → R i v W')
    (hJ : ∀ S S' vs vs' W W', (∀ j, T j = true → S j = S' j ∧ vs j = vs' j) → J S vs W → Below W.heap.size W W' → J S' vs' W')
    (h0 : J (fun _ => false) vs w.drew)
    (hplain : ∀ i o, T i = false → ops[i]? = some o → TPlain P Q ops w.heap.size w.drew R T J A i o)
    (htied : ∀ i o, T i = true → ops[i]? = some o → TTied P Q ops w.heap.size w.drew R T J A i o)
    (hfin : ∀ S vs W, Below w.heap.size w.drew W → (∀ i, i < ops.size → S i = true) → (∀ i, i < ops.size → T i = false → R i (vs i) W) → J S vs W → Q .normal (A vs) W) : (Code.region id ops true).wp P Q a w := by
  refine region_inv hm (TInvJ w.heap.size w.drew T R J) A vs ha hb ⟨Below.refl _ _, fun _ _ h => absurd h (by simp), h0⟩ (fun i o ho => ?_) fun S vs W hS hI => ?_
  · intro S vs W K hSi hd hcl ⟨hB, hRs, hJs⟩ hK
    cases hT : T i
    · refine hplain i o hT ho S vs W K hB hd (fun j hj hw => hRs j hj (hd j hw)) hJs fun v W' hb' hr => hK v W' ⟨hB.trans (hb'.mono hB.size), fun j hj hSj => ?_, ?_⟩
      · by_cases e : j = i
        · subst e; simpa [upd] using hr
        · have : S j = true := by simpa [upS, e] using hSj
          simp only [upd, if_neg e]
          exact hR j _ W W' (hRs j hj this) hb'
      · refine hJ S _ vs _ W W' (fun j hj => ?_) hJs hb'
        have e : j ≠ i := fun e => by subst e; rw [hT] at hj; cases hj
        simp [upS, upd, e]
    · refine htied i o hT ho S vs W K hB hSi hd hcl (fun j hj hw => hRs j hj (hd j hw)) hJs fun v W' hb' hr hj' => hK v W' ⟨hb', fun j hj hSj => ?_, hj'⟩
      have e : j ≠ i := fun e => by subst e; rw [hT] at hj; cases hj
      have : S j = true := by simpa [upS, e] using hSj
      simp only [upd, if_neg e]
      exact hr j _ hj (hRs j hj this)
  · exact hfin S vs W hI.1 hS (fun i hi hT => hI.2.1 i hT (hS i hi)) hI.2.2
end

end Go.Proofs.Ytijkjhcigdfdgaa
