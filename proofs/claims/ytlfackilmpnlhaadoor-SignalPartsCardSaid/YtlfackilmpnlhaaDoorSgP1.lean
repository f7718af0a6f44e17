/- The halves of a letter and its digits, in plain lists. -/
import Derived.Test.YtlfackilmpnlhaaDoorSg13
namespace Go.Proofs.YtlfackilmpnlhaaDoor

/-- The half of a letter whose signals are inputs (q), or are none. -/
def halfL (q : Bool) : List Sig → Int → Int
  | [], _ => 0
  | s :: r, a => if (s.inp == q) = true then a % s.size + s.size * halfL q r (a / s.size) else halfL q r (a / s.size)

def halfI (l : List Sig) (q : Bool) (a : Int) : Int := if 0 ≤ a ∧ a < lettersI l then halfL q l a else 0

/-- The digits of a letter. -/
def digL : List Sig → Int → List Int
  | [], _ => []
  | s :: r, a => a % s.size :: digL r (a / s.size)

theorem digL_len (l : List Sig) : ∀ a, (digL l a).length = l.length := by
  induction l with
  | nil => intro a; rfl
  | cons s r ih => intro a; simp [digL, ih]

theorem sizes_pos {l : List Sig} (hz : ∀ s ∈ l, sizeB s = true) : ∀ s ∈ l, 2 ≤ s.size ∧ s.size ≤ 4 := fun s hs => by
  have := hz s hs
  simpa [sizeB] using this

theorem prodL_pos {l : List Sig} (hz : ∀ s ∈ l, sizeB s = true) : 1 ≤ prodL l := (prodL_bd l hz).1

theorem ediv_prod {a p z : Int} (hp : 0 ≤ p) : a / p / z = a / (p * z) := Int.ediv_ediv_of_nonneg hp

theorem digL_get {l : List Sig} (hz : ∀ s ∈ l, sizeB s = true) : ∀ (a : Int) (k : Nat) (h : k < l.length), (digL l a).getD k 0 = a / prodL (l.take k) % l[k].size := by
  induction l with
  | nil => intro a k h; simp at h
  | cons s r ih =>
    intro a k h
    have hzr : ∀ s ∈ r, sizeB s = true := fun x hx => hz x (List.mem_cons_of_mem _ hx)
    have hs := sizes_pos hz s (by simp)
    cases k with
    | zero => simp [digL, prodL]
    | succ k =>
      have := ih hzr (a / s.size) k (by simpa using h)
      simp only [digL, List.getD_cons_succ, this, List.take_succ_cons, prodL, List.getElem_cons_succ]
      rw [ediv_prod (by omega)]

/-- What stands when k signals have been taken: s so far, and their product. -/
def HalfAt (l : List Sig) (q : Bool) (a : Int) (k : Nat) (s o : Int) : Prop :=
  halfL q l a = s + o * halfL q (l.drop k) (a / prodL (l.take k)) ∧ 0 ≤ s ∧ s < o ∧ o = prodC (fun x => x.inp == q) (l.take k)

theorem HalfAt.start (l : List Sig) (q : Bool) (a : Int) : HalfAt l q a 0 0 1 := by
  refine ⟨?_, by omega, by omega, by simp [prodC]⟩
  simp [prodL]

theorem half_hit_bd {s o z d : Int} (h0 : 0 ≤ s) (h1 : s < o) (hd0 : 0 ≤ d) (hd1 : d < z) : 0 ≤ s + o * d ∧ s + o * d < o * z := by
  have h5 := Int.mul_nonneg (show 0 ≤ o by omega) hd0
  have h6 := Int.mul_le_mul_of_nonneg_left (show d ≤ z - 1 by omega) (show 0 ≤ o by omega)
  rw [Int.mul_sub, Int.mul_one] at h6
  exact ⟨by omega, by omega⟩

theorem HalfAt.hit {l : List Sig} {q : Bool} {a : Int} {k : Nat} {s o : Int} (h : HalfAt l q a k s o) (hz : ∀ s ∈ l, sizeB s = true) (hk : k < l.length) (hq : (l[k].inp == q) = true) :
    HalfAt l q a (k + 1) (s + o * (a / prodL (l.take k) % l[k].size)) (o * l[k].size) := by
  obtain ⟨h1, h2, h3, h4⟩ := h
  have hs := sizes_pos hz _ (List.getElem_mem hk)
  have hd0 := Int.emod_nonneg (a / prodL (l.take k)) (show l[k].size ≠ 0 by omega)
  have hd1 := Int.emod_lt_of_pos (a / prodL (l.take k)) (show 0 < l[k].size by omega)
  have hb := half_hit_bd h2 h3 hd0 hd1
  have hp := prodL_pos (l := l.take k) (fun s hs => hz s (List.mem_of_mem_take hs))
  refine ⟨?_, hb.1, hb.2, by rw [prodC_take hk, if_pos hq, h4]⟩
  rw [h1, drop_cons l k hk, prodL_take hk]
  simp only [halfL]
  rw [if_pos hq, ediv_prod (by omega), Int.mul_add, Int.mul_assoc, Int.add_assoc]

theorem HalfAt.miss {l : List Sig} {q : Bool} {a : Int} {k : Nat} {s o : Int} (h : HalfAt l q a k s o) (hz : ∀ s ∈ l, sizeB s = true) (hk : k < l.length) (hq : (l[k].inp == q) = false) :
    HalfAt l q a (k + 1) s o := by
  obtain ⟨h1, h2, h3, h4⟩ := h
  have hp := prodL_pos (l := l.take k) (fun s hs => hz s (List.mem_of_mem_take hs))
  refine ⟨?_, h2, h3, by rw [prodC_take hk, hq]; simpa using h4⟩
  rw [h1, drop_cons l k hk, prodL_take hk]
  simp only [halfL]
  rw [hq, if_neg (by simp), ediv_prod (by omega)]

theorem HalfAt.done {l : List Sig} {q : Bool} {a : Int} {s o : Int} (h : HalfAt l q a l.length s o) : halfL q l a = s := by
  rw [h.1, List.drop_length]; simp [halfL]

/-! The same, of the places that an iterator has handed on. -/

def hStep (l : List Sig) (q : Bool) (a : Int) (st : Int × Int) (x : Fin l.length) : Int × Int :=
  if (l[x].inp == q) = true then (st.1 + st.2 * (a / prodL (l.take x) % l[x].size), st.2 * l[x].size) else st
def hF (l : List Sig) (q : Bool) (a : Int) (pre : List (Fin l.length)) : Int × Int := pre.foldl (hStep l q a) (0, 1)

theorem hF_snoc (l : List Sig) (q : Bool) (a : Int) (pre : List (Fin l.length)) (x : Fin l.length) : hF l q a (pre ++ [x]) = hStep l q a (hF l q a pre) x := by simp [hF]

theorem snoc_ind {α : Type} {P : List α → Prop} (h0 : P []) (h1 : ∀ pre x, P pre → P (pre ++ [x])) : ∀ pre, P pre := by
  have key : ∀ (n : Nat) (pre : List α), pre.length = n → P pre := by
    intro n
    induction n with
    | zero => intro pre hp; rw [List.eq_nil_of_length_eq_zero hp]; exact h0
    | succ n ih =>
      intro pre hp
      have hne : pre ≠ [] := by intro e; rw [e] at hp; simp at hp
      rw [← List.dropLast_concat_getLast hne]
      exact h1 _ _ (ih _ (by simp [hp]))
  exact fun pre => key _ pre rfl

theorem hF_bd {l : List Sig} (hz : ∀ s ∈ l, sizeB s = true) (q : Bool) (a : Int) (pre : List (Fin l.length)) :
    0 ≤ (hF l q a pre).1 ∧ (hF l q a pre).1 < (hF l q a pre).2 ∧ (hF l q a pre).2 ≤ 4 ^ pre.length := by
  induction pre using snoc_ind with
  | h0 => simp [hF]
  | h1 pre x ih =>
    obtain ⟨h2, h3, h4⟩ := ih
    have hs := sizes_pos hz _ (List.getElem_mem x.2)
    have hd0 := Int.emod_nonneg (a / prodL (l.take x)) (show l[x.1].size ≠ 0 by omega)
    have hd1 := Int.emod_lt_of_pos (a / prodL (l.take x)) (show 0 < l[x.1].size by omega)
    have hb := half_hit_bd h2 h3 hd0 hd1
    rw [hF_snoc, hStep, List.length_append, List.length_singleton, Int.pow_succ]
    simp only [Fin.getElem_fin]
    split
    · exact ⟨hb.1, hb.2, Int.mul_le_mul h4 hs.2 (by omega) (by omega)⟩
    · exact ⟨h2, h3, by omega⟩

theorem hF_take {l : List Sig} (hz : ∀ s ∈ l, sizeB s = true) (q : Bool) (a : Int) (k : Nat) (hk : k ≤ l.length) :
    HalfAt l q a k (hF l q a ((allF l.length).take k)).1 (hF l q a ((allF l.length).take k)).2 := by
  induction k with
  | zero => exact HalfAt.start l q a
  | succ k ih =>
    have h := ih (by omega)
    rw [allF_take (show k < l.length by omega), hF_snoc, hStep]
    cases hq : (l[k].inp == q)
    · have := h.miss hz (by omega) hq
      simpa [hq] using this
    · have := h.hit hz (by omega) hq
      simpa [hq] using this

theorem hF_all {l : List Sig} (hz : ∀ s ∈ l, sizeB s = true) (q : Bool) (a : Int) : halfL q l a = (hF l q a (allF l.length)).1 := by
  have h := hF_take hz q a l.length (Nat.le_refl _)
  rw [List.take_of_length_le (by rw [allF_len]; exact Nat.le_refl _)] at h
  exact h.done

/-! Making a letter, of the places that have come. -/

def mF (l : List Sig) (vals : List Int) (pre : List (Fin l.length)) : Int := pre.foldl (fun n (x : Fin l.length) => n + prodL (l.take x.1) * vals.getD x.1 0) 0
theorem mF_snoc (l : List Sig) (vals : List Int) (pre : List (Fin l.length)) (x : Fin l.length) : mF l vals (pre ++ [x]) = mF l vals pre + prodL (l.take x) * vals.getD x 0 := by simp [mF]

def okV (l : List Sig) (vals : List Int) (x : Nat) : Prop := 0 ≤ vals.getD x 0 ∧ vals.getD x 0 < (l.getD x sig0).size

theorem prodL_take_le {l : List Sig} (hz : ∀ s ∈ l, sizeB s = true) (h6 : l.length ≤ 6) (k : Nat) : 1 ≤ prodL (l.take k) ∧ prodL (l.take k) ≤ 4096 := by
  obtain ⟨hp1, hp2⟩ := prodL_bd (l.take k) (fun s hs => hz s (List.mem_of_mem_take hs))
  exact ⟨hp1, Int.le_trans hp2 (pow4 (by rw [List.length_take]; omega))⟩

theorem mF_bd {l : List Sig} (hz : ∀ s ∈ l, sizeB s = true) (h6 : l.length ≤ 6) (vals : List Int) (pre : List (Fin l.length)) :
    (∀ x ∈ pre, okV l vals x) → 0 ≤ mF l vals pre ∧ mF l vals pre ≤ 16384 * pre.length := by
  induction pre using snoc_ind with
  | h0 => simp [mF]
  | h1 pre x ih =>
    intro h
    obtain ⟨h0, h1⟩ := ih (fun y hy => h y (by simp [hy]))
    obtain ⟨g0, g1⟩ := h x (by simp)
    have hs := sizes_pos hz _ (List.getElem_mem x.2)
    obtain ⟨hp1, hp2⟩ := prodL_take_le hz h6 x
    rw [getD_lt _ _ _ x.2] at g1
    obtain ⟨⟨hm0, hm1⟩, -⟩ := mk_bounds hp1 hp2 g0 g1 hs.2
    rw [mF_snoc, List.length_append, List.length_singleton]
    push_cast
    omega

theorem mF_take {l : List Sig} (hz : ∀ s ∈ l, sizeB s = true) {vals : List Int} (hlen : vals.length = l.length) (k : Nat) (hk : k ≤ l.length) (h : ∀ x, x < k → okV l vals x) :
    MkAt l vals k (mF l vals ((allF l.length).take k)) := by
  induction k with
  | zero => exact MkAt.start l vals
  | succ k ih =>
    have h1 := ih (by omega) (fun x hx => h x (by omega))
    obtain ⟨g0, g1⟩ := h k (by omega)
    rw [getD_lt _ _ _ (show k < l.length by omega)] at g1
    rw [getD_lt _ _ _ (show k < vals.length by omega)] at g0 g1
    have := h1.next (by omega) (show k < vals.length by omega) g0 g1 (prodL_pos (fun s hs => hz s (List.mem_of_mem_take hs)))
    rw [allF_take (show k < l.length by omega), mF_snoc, getD_lt _ _ _ (show k < vals.length by omega)]
    exact this

theorem mkL_all {l : List Sig} (hz : ∀ s ∈ l, sizeB s = true) {vals : List Int} (hlen : vals.length = l.length) (h : ∀ x, x ∈ allF l.length → okV l vals x) : mkL l vals = some (mF l vals (allF l.length)) := by
  have := mF_take hz hlen l.length (Nat.le_refl _) (fun x hx => h ⟨x, hx⟩ (by simp [allF]))
  rw [List.take_of_length_le (by rw [allF_len]; exact Nat.le_refl _)] at this
  exact this.done hlen

theorem mkL_good : ∀ (l : List Sig) (vals : List Int) (n : Int), mkL l vals = some n → ∀ x, x < l.length → okV l vals x := by
  intro l
  induction l with
  | nil => intro vals n _ x hx; simp at hx
  | cons s r ih =>
    intro vals n h x hx
    cases vals with
    | nil => simp [mkL] at h
    | cons v vs =>
      simp only [mkL] at h
      split at h
      · rename_i hg
        cases hr : mkL r vs with
        | none => rw [hr] at h; simp at h
        | some m =>
          cases x with
          | zero => simpa [okV] using hg
          | succ x => have := ih vs m hr x (by simpa using hx); simpa [okV] using this
      · simp at h

theorem mkL_bad {l : List Sig} {vals : List Int} {x : Nat} (hx : x < l.length) (h : ¬ okV l vals x) : mkL l vals = none := by
  cases hm : mkL l vals with
  | none => rfl
  | some n => exact absurd (mkL_good l vals n hm x hx) h

/-! Joining, of the places that have come. -/

def jStep (l : List Sig) (st : Int × Int × Int) (x : Fin l.length) : Int × Int × Int :=
  if l[x].inp = true then (st.1 / l[x].size, st.2.1, st.2.2 + prodL (l.take x) * (st.1 % l[x].size)) else (st.1, st.2.1 / l[x].size, st.2.2 + prodL (l.take x) * (st.2.1 % l[x].size))
def jF (l : List Sig) (i o : Int) (pre : List (Fin l.length)) : Int × Int × Int := pre.foldl (jStep l) (i, o, 0)
theorem jF_snoc (l : List Sig) (i o : Int) (pre : List (Fin l.length)) (x : Fin l.length) : jF l i o (pre ++ [x]) = jStep l (jF l i o pre) x := by simp [jF]

theorem jF_bd {l : List Sig} (hz : ∀ s ∈ l, sizeB s = true) (h6 : l.length ≤ 6) {i o : Int} (hi : 0 ≤ i) (ho : 0 ≤ o) (pre : List (Fin l.length)) :
    (0 ≤ (jF l i o pre).1 ∧ (jF l i o pre).1 ≤ i) ∧ (0 ≤ (jF l i o pre).2.1 ∧ (jF l i o pre).2.1 ≤ o) ∧ 0 ≤ (jF l i o pre).2.2 ∧ (jF l i o pre).2.2 ≤ 16384 * pre.length := by
  induction pre using snoc_ind with
  | h0 => simp [jF]; omega
  | h1 pre x ih =>
    obtain ⟨⟨a0, a1⟩, ⟨b0, b1⟩, c0, c1⟩ := ih
    have hs := sizes_pos hz _ (List.getElem_mem x.2)
    obtain ⟨hp1, hp2⟩ := prodL_take_le hz h6 x
    rw [jF_snoc, jStep, List.length_append, List.length_singleton]
    simp only [Fin.getElem_fin] at *
    split
    · have e0 := Int.emod_nonneg (jF l i o pre).1 (show l[x.1].size ≠ 0 by omega)
      have e1 := Int.emod_lt_of_pos (jF l i o pre).1 (show 0 < l[x.1].size by omega)
      have d0 := Int.ediv_nonneg a0 (show 0 ≤ l[x.1].size by omega)
      have d1 := Int.ediv_le_self l[x.1].size a0
      obtain ⟨⟨hm0, hm1⟩, -⟩ := mk_bounds hp1 hp2 e0 e1 hs.2
      refine ⟨⟨d0, by simp only; omega⟩, ⟨b0, b1⟩, by simp only; omega, ?_⟩
      simp only; push_cast; omega
    · have e0 := Int.emod_nonneg (jF l i o pre).2.1 (show l[x.1].size ≠ 0 by omega)
      have e1 := Int.emod_lt_of_pos (jF l i o pre).2.1 (show 0 < l[x.1].size by omega)
      have d0 := Int.ediv_nonneg b0 (show 0 ≤ l[x.1].size by omega)
      have d1 := Int.ediv_le_self l[x.1].size b0
      obtain ⟨⟨hm0, hm1⟩, -⟩ := mk_bounds hp1 hp2 e0 e1 hs.2
      refine ⟨⟨a0, a1⟩, ⟨d0, by simp only; omega⟩, by simp only; omega, ?_⟩
      simp only; push_cast; omega

theorem jF_take {l : List Sig} (hz : ∀ s ∈ l, sizeB s = true) (i o : Int) (k : Nat) (hk : k ≤ l.length) :
    JoinAt l k (jF l i o ((allF l.length).take k)).2.2 (jF l i o ((allF l.length).take k)).1 (jF l i o ((allF l.length).take k)).2.1 (joinL l i o) := by
  induction k with
  | zero => exact ⟨by simp [prodL, jF], by simp [jF], by simp [jF, prodL]⟩
  | succ k ih =>
    have h := ih (by omega)
    have hs := sizes_pos hz _ (List.getElem_mem (show k < l.length by omega))
    have hp := prodL_pos (l := l.take k) (fun s hs => hz s (List.mem_of_mem_take hs))
    rw [allF_take (show k < l.length by omega), jF_snoc, jStep]
    cases hq : l[k].inp
    · have := h.next_out (by omega) hq hs.1 hp
      simpa [hq] using this
    · have := h.next_in (by omega) hq hs.1 hp
      simpa [hq] using this

theorem jF_all {l : List Sig} (hz : ∀ s ∈ l, sizeB s = true) (i o : Int) : joinL l i o = (jF l i o (allF l.length)).2.2 := by
  have h := jF_take hz i o l.length (Nat.le_refl _)
  rw [List.take_of_length_le (by rw [allF_len]; exact Nat.le_refl _)] at h
  have := h.1
  rw [List.drop_length] at this
  simp only [joinL] at this
  omega

end Go.Proofs.YtlfackilmpnlhaaDoor
