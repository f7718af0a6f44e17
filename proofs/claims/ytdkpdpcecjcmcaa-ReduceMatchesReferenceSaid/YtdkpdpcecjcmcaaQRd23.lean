/- Numbering by rows; the classes of an automaton's states; the merged automaton (plain). -/
import Derived.Test.YtdkpdpcecjcmcaaQRd20
namespace Go.Proofs.Ytdkpdpcecjcmcaa

def keysG (R : Nat → List Int) : Nat → List (List Int)
  | 0 => []
  | s + 1 => if R s ∈ keysG R s then keysG R s else keysG R s ++ [R s]
def classL (R : Nat → List Int) (n : Nat) : List Int := (List.range n).map fun s => ((keysG R n).idxOf (R s) : Int)
theorem keysG_succ (R : Nat → List Int) (s : Nat) : keysG R (s + 1) = if R s ∈ keysG R s then keysG R s else keysG R s ++ [R s] := rfl
theorem map_getD {f : Int → Int} {l : List Int} {x : Nat} (h : x < l.length) : (l.map f).getD x 0 = f (l.getD x 0) := by
  rw [getD_lt _ _ _ (by rw [List.length_map]; exact h), getD_lt _ _ _ h, List.getElem_map]
section
variable {R R' : Nat → List Int} {m n s t : Nat}
theorem keysG_mem {r : List Int} : ∀ {n : Nat}, r ∈ keysG R n ↔ ∃ s, s < n ∧ R s = r
  | 0 => by simp [keysG]
  | n + 1 => by
    have ih := keysG_mem (r := r) (n := n)
    have h2 : (∃ s, s < n + 1 ∧ R s = r) ↔ (∃ s, s < n ∧ R s = r) ∨ R n = r := by
      constructor
      · rintro ⟨s, h, e⟩
        by_cases hs : s = n
        · subst hs; exact .inr e
        · exact .inl ⟨s, by omega, e⟩
      · rintro (⟨s, h, e⟩ | e)
        · exact ⟨s, by omega, e⟩
        · exact ⟨n, by omega, e⟩
    rw [h2, ← ih, keysG_succ]
    split
    · rename_i h
      constructor
      · exact .inl
      · rintro (k | rfl)
        · exact k
        · exact h
    · rw [List.mem_append, List.mem_singleton, eq_comm (a := r)]
theorem keysG_pre : ∀ {m n : Nat}, m ≤ n → ∃ e, keysG R n = keysG R m ++ e
  | m, 0, h => ⟨[], by have : m = 0 := by omega
                       subst this; simp⟩
  | m, n + 1, h => by
    by_cases e : m = n + 1
    · subst e; exact ⟨[], by simp⟩
    · obtain ⟨e1, h1⟩ := keysG_pre (m := m) (n := n) (by omega)
      by_cases hr : R n ∈ keysG R n
      · exact ⟨e1, by rw [keysG_succ, if_pos hr]; exact h1⟩
      · exact ⟨e1 ++ [R n], by rw [keysG_succ, if_neg hr, ← List.append_assoc, ← h1]⟩
theorem keysG_nd : ∀ {n : Nat}, (keysG R n).Nodup
  | 0 => List.nodup_nil
  | n + 1 => by
    rw [keysG_succ]
    split
    · exact keysG_nd
    · rename_i h
      rw [List.nodup_append]
      exact ⟨keysG_nd, by simp, fun a ha b hb e => h (by rw [← List.mem_singleton.1 hb, ← e]; exact ha)⟩
theorem keysG_len : ∀ {n : Nat}, (keysG R n).length ≤ n
  | 0 => Nat.le_refl _
  | n + 1 => by
    have := keysG_len (n := n)
    rw [keysG_succ]
    split
    · omega
    · simp; omega
theorem idxL_pre {l e : List (List Int)} {y : List Int} (h : y ∈ l) : (l ++ e).idxOf y = l.idxOf y := by rw [List.idxOf_append, if_pos h]
theorem idxL_new {l : List (List Int)} {y : List Int} (h : y ∉ l) : (l ++ [y]).idxOf y = l.length := by rw [List.idxOf_append, if_neg h]; simp
theorem cls_stay (hs : s < m) (h : m ≤ n) : (keysG R n).idxOf (R s) = (keysG R m).idxOf (R s) := by
  obtain ⟨e, he⟩ := keysG_pre (R := R) h
  rw [he]
  exact idxL_pre (keysG_mem.2 ⟨s, hs, rfl⟩)
theorem idxL_inj {l : List (List Int)} {y z : List Int} (hy : y ∈ l) (hz : z ∈ l) (h : l.idxOf y = l.idxOf z) : y = z := by
  have h1 := List.getElem_idxOf (List.idxOf_lt_length_iff.2 hy)
  have h2 := List.getElem_idxOf (List.idxOf_lt_length_iff.2 hz)
  rw [← h1, ← h2]
  simp only [h]
theorem classL_len : (classL R n).length = n := by simp [classL]
theorem classL_at (hs : s < n) : (classL R n).getD s 0 = ((keysG R n).idxOf (R s) : Int) := by
  rw [getD_lt _ _ _ (by rw [classL_len]; exact hs)]; simp [classL]
theorem classL_eq (hs : s < n) (ht : t < n) : (classL R n).getD s 0 = (classL R n).getD t 0 ↔ R s = R t := by
  rw [classL_at hs, classL_at ht]
  constructor
  · intro h
    exact idxL_inj (keysG_mem.2 ⟨s, hs, rfl⟩) (keysG_mem.2 ⟨t, ht, rfl⟩) (by omega)
  · intro h; rw [h]
/-- Only which rows are equal matters. -/
theorem keys_same (hk : ∀ s t, s < n → t < n → (R s = R t ↔ R' s = R' t)) : ∀ m, m ≤ n → (keysG R m).length = (keysG R' m).length ∧ ∀ s, s < m → (keysG R m).idxOf (R s) = (keysG R' m).idxOf (R' s)
  | 0, _ => ⟨rfl, fun s h => absurd h (Nat.not_lt_zero _)⟩
  | m + 1, h => by
    obtain ⟨h1, h2⟩ := keys_same hk m (by omega)
    have hin : R m ∈ keysG R m ↔ R' m ∈ keysG R' m := by
      rw [keysG_mem, keysG_mem]
      constructor
      · rintro ⟨s, hs, e⟩; exact ⟨s, hs, (hk s m (by omega) (by omega)).1 e⟩
      · rintro ⟨s, hs, e⟩; exact ⟨s, hs, (hk s m (by omega) (by omega)).2 e⟩
    by_cases hr : R m ∈ keysG R m
    · have hr' := hin.1 hr
      rw [keysG_succ, keysG_succ, if_pos hr, if_pos hr']
      refine ⟨h1, fun s hs => ?_⟩
      by_cases e : s = m
      · subst e
        obtain ⟨t, ht, e⟩ := keysG_mem.1 hr
        rw [← e, ← (hk t s (by omega) (by omega)).1 e]
        exact h2 t ht
      · exact h2 s (by omega)
    · have hr' : R' m ∉ keysG R' m := fun k => hr (hin.2 k)
      rw [keysG_succ, keysG_succ, if_neg hr, if_neg hr']
      refine ⟨by simp [h1], fun s hs => ?_⟩
      by_cases e : s = m
      · subst e
        rw [idxL_new hr, idxL_new hr', h1]
      · have hs' : s < m := by omega
        rw [idxL_pre (keysG_mem.2 ⟨s, hs', rfl⟩), idxL_pre (keysG_mem.2 ⟨s, hs', rfl⟩)]
        exact h2 s hs'
theorem classL_same (hk : ∀ s t, s < n → t < n → (R s = R t ↔ R' s = R' t)) : classL R n = classL R' n ∧ (keysG R n).length = (keysG R' n).length := by
  obtain ⟨h1, h2⟩ := keys_same hk n (Nat.le_refl _)
  refine ⟨?_, h1⟩
  unfold classL
  refine List.map_congr_left fun s hs => ?_
  rw [h2 s (List.mem_range.1 hs)]
/-- A finer numbering has at least as many numbers; as many only if it is the same. -/
theorem keys_finer (hk : ∀ s t, s < n → t < n → R' s = R' t → R s = R t) : ∀ m, m ≤ n → (keysG R m).length ≤ (keysG R' m).length
  | 0, _ => Nat.le_refl _
  | m + 1, h => by
    have ih := keys_finer hk m (by omega)
    by_cases hr : R' m ∈ keysG R' m
    · have hr2 : R m ∈ keysG R m := by
        obtain ⟨s, hs, e⟩ := keysG_mem.1 hr
        exact keysG_mem.2 ⟨s, hs, hk s m (by omega) (by omega) e⟩
      rw [keysG_succ, keysG_succ, if_pos hr, if_pos hr2]; exact ih
    · rw [keysG_succ, keysG_succ, if_neg hr]
      split
      · simp; omega
      · simp; omega
theorem keys_stable (hk : ∀ s t, s < n → t < n → R' s = R' t → R s = R t) (hl : (keysG R' n).length = (keysG R n).length) : ∀ s t, s < n → t < n → R s = R t → R' s = R' t := by
  -- at each m, the numbers of keys agree
  have hge : ∀ d m, m + d = n → (keysG R' m).length ≤ (keysG R m).length := by
    intro d
    induction d with
    | zero => intro m hm; have : m = n := by omega
              subst this; omega
    | succ d ih =>
      intro m hm
      have h1 := ih (m + 1) (by omega)
      by_cases hr : R m ∈ keysG R m
      · have e1 : keysG R (m + 1) = keysG R m := by
          show (if R m ∈ keysG R m then _ else _) = _
          rw [if_pos hr]
        obtain ⟨e, he⟩ := keysG_pre (R := R') (m := m) (n := m + 1) (by omega)
        rw [e1, he, List.length_append] at h1
        omega
      · have hr2 : R' m ∉ keysG R' m := fun k => hr (by
          obtain ⟨s, hs, e⟩ := keysG_mem.1 k
          exact keysG_mem.2 ⟨s, hs, hk s m (by omega) (by omega) e⟩)
        have e1 : keysG R (m + 1) = keysG R m ++ [R m] := by
          show (if R m ∈ keysG R m then _ else _) = _
          rw [if_neg hr]
        have e2 : keysG R' (m + 1) = keysG R' m ++ [R' m] := by
          show (if R' m ∈ keysG R' m then _ else _) = _
          rw [if_neg hr2]
        rw [e1, e2, List.length_append, List.length_append] at h1
        simp at h1
        omega
  have heq : ∀ m, m ≤ n → (keysG R' m).length = (keysG R m).length := fun m hm => by
    have h1 := hge (n - m) m (by omega)
    have h2 := keys_finer hk m hm
    omega
  have hin : ∀ m, m < n → R m ∈ keysG R m → R' m ∈ keysG R' m := fun m hm hr => by
    refine Classical.byContradiction fun hr2 => ?_
    have h1 := heq m (by omega)
    have h2 := heq (m + 1) (by omega)
    have e1 : keysG R (m + 1) = keysG R m := by
      show (if R m ∈ keysG R m then _ else _) = _
      rw [if_pos hr]
    have e2 : keysG R' (m + 1) = keysG R' m ++ [R' m] := by
      show (if R' m ∈ keysG R' m then _ else _) = _
      rw [if_neg hr2]
    rw [e1, e2, List.length_append] at h2
    simp at h2
    omega
  -- the first ones of both are the same
  have key : ∀ t, t < n → ∀ s, s < t → R s = R t → R' s = R' t := by
    intro t
    induction t using Nat.strongRecOn with
    | _ t ih =>
      intro ht s hs e
      obtain ⟨u, hu, eu⟩ := keysG_mem.1 (hin t ht (keysG_mem.2 ⟨s, hs, e⟩))
      have e2 : R u = R s := by rw [hk u t (by omega) ht eu, e]
      rw [← eu]
      rcases Nat.lt_trichotomy u s with h | h | h
      · exact (ih s hs (by omega) u h e2).symm
      · rw [h]
      · exact ih u hu (by omega) s h e2.symm
  intro s t hs ht e
  rcases Nat.lt_trichotomy s t with h | h | h
  · exact key t ht s h e
  · rw [h]
  · exact (key s hs t h e.symm).symm
end

/-! The classes of the states. -/
def nxI (a : Au) (s x : Nat) : Nat := ((a.next.getD s []).getD x 0).toNat
def cls0 (a : Au) : List Int := classL (fun s => 0 :: a.prio.getD s []) a.next.length
def rowG (a : Au) (c : List Int) (s : Nat) : List Int := c.getD s 0 :: (a.next.getD s []).map fun y => c.getD y.toNat 0
def clsI (a : Au) : Nat → List Int
  | 0 => cls0 a
  | i + 1 => classL (rowG a (clsI a i)) a.next.length
/-- Equivalent for i steps. -/
def eqN (a : Au) (k : Nat) : Nat → Nat → Nat → Prop
  | 0, s, t => a.prio.getD s [] = a.prio.getD t []
  | i + 1, s, t => eqN a k i s t ∧ ∀ x, x < k → eqN a k i (nxI a s x) (nxI a t x)
section
variable {a : Au} {k i s t x : Nat}
theorem AuV.nxI (hA : AuV a k) (hs : s < a.next.length) (hx : x < k) : nxI a s x < a.next.length := by
  have := hA.nx s x hs hx
  unfold Proofs.Ytdkpdpcecjcmcaa.nxI; omega
theorem rowG_eq (hA : AuV a k) (c : List Int) (hs : s < a.next.length) (ht : t < a.next.length) : rowG a c s = rowG a c t ↔ c.getD s 0 = c.getD t 0 ∧ ∀ x, x < k → c.getD (Proofs.Ytdkpdpcecjcmcaa.nxI a s x) 0 = c.getD (Proofs.Ytdkpdpcecjcmcaa.nxI a t x) 0 := by
  have l1 := (hA.ln s hs).1
  have l2 := (hA.ln t ht).1
  unfold rowG
  rw [List.cons.injEq]
  refine and_congr_right fun _ => ⟨fun h x hx => ?_, fun h => ?_⟩
  · have h2 := congrArg (fun l => l.getD x 0) h
    rwa [map_getD (f := fun y => c.getD y.toNat 0) (show x < (a.next.getD s []).length by omega), map_getD (f := fun y => c.getD y.toNat 0) (show x < (a.next.getD t []).length by omega)] at h2
  · apply List.ext_getElem (by simp only [List.length_map]; omega)
    intro j h1 h2
    simp only [List.length_map] at h1 h2
    have h3 := h j (by omega)
    unfold Proofs.Ytdkpdpcecjcmcaa.nxI at h3
    rw [getD_lt _ _ j h1, getD_lt _ _ j h2] at h3
    simpa using h3
theorem clsI_len (a : Au) (i : Nat) : (clsI a i).length = a.next.length := by cases i <;> simp [clsI, cls0, classL]
theorem clsI_eq (hA : AuV a k) : ∀ (i : Nat) {s t : Nat}, s < a.next.length → t < a.next.length → ((clsI a i).getD s 0 = (clsI a i).getD t 0 ↔ eqN a k i s t)
  | 0, s, t, hs, ht => by
    unfold clsI cls0
    rw [classL_eq hs ht, List.cons.injEq]
    simp [eqN]
  | i + 1, s, t, hs, ht => by
    unfold clsI
    rw [classL_eq hs ht, rowG_eq hA _ hs ht]
    unfold eqN
    rw [clsI_eq hA i hs ht]
    refine and_congr_right fun _ => forall_congr' fun x => forall_congr' fun hx => clsI_eq hA i (hA.nxI hs hx) (hA.nxI ht hx)
/-- How many classes. -/
def cntI (a : Au) : Nat → Nat
  | 0 => (keysG (fun s => 0 :: a.prio.getD s []) a.next.length).length
  | i + 1 => (keysG (rowG a (clsI a i)) a.next.length).length
def rowI (a : Au) : Nat → Nat → List Int
  | 0 => fun s => 0 :: a.prio.getD s []
  | i + 1 => rowG a (clsI a i)
theorem clsI_row (a : Au) (i : Nat) : clsI a i = classL (rowI a i) a.next.length := by cases i <;> rfl
theorem cntI_row (a : Au) (i : Nat) : cntI a i = (keysG (rowI a i) a.next.length).length := by cases i <;> rfl
theorem rowI_eq (hA : AuV a k) (hs : s < a.next.length) (ht : t < a.next.length) : rowI a i s = rowI a i t ↔ eqN a k i s t := by
  rw [← classL_eq hs ht, ← clsI_row, clsI_eq hA i hs ht]
theorem cntI_le (a : Au) (i : Nat) : cntI a i ≤ a.next.length := by rw [cntI_row]; exact keysG_len
theorem cntI_up (hA : AuV a k) (i : Nat) : cntI a i ≤ cntI a (i + 1) := by
  rw [cntI_row, cntI_row]
  exact keys_finer (fun s t hs ht h => (rowI_eq hA hs ht).2 ((rowI_eq (i := i + 1) hA hs ht).1 h).1) _ (Nat.le_refl _)
/-- As many classes as before: all is done. -/
theorem eq_stable (hA : AuV a k) (h : cntI a (i + 1) = cntI a i) : ∀ (d : Nat) {s t : Nat}, s < a.next.length → t < a.next.length → eqN a k i s t → eqN a k (i + d) s t := by
  rw [cntI_row, cntI_row] at h
  have h1 := keys_stable (R := rowI a i) (R' := rowI a (i + 1)) (fun s t hs ht h => (rowI_eq hA hs ht).2 ((rowI_eq (i := i + 1) hA hs ht).1 h).1) h
  have h2 : ∀ {s t : Nat}, s < a.next.length → t < a.next.length → eqN a k i s t → eqN a k (i + 1) s t := fun hs ht e => (rowI_eq hA hs ht).1 (h1 _ _ hs ht ((rowI_eq hA hs ht).2 e))
  intro d
  induction d with
  | zero => intro s t _ _ e; exact e
  | succ d ih =>
    intro s t hs ht e
    exact ⟨ih hs ht e, fun x hx => ih (hA.nxI hs hx) (hA.nxI ht hx) ((h2 hs ht e).2 x hx)⟩
theorem eqN_down : ∀ (d : Nat), eqN a k (i + d) s t → eqN a k i s t
  | 0, h => h
  | d + 1, h => eqN_down d h.1
theorem cnt_grow (hA : AuV a k) : ∀ (i : Nat), (∀ j, j < i → cntI a (j + 1) ≠ cntI a j) → i + 1 ≤ cntI a i
  | 0, _ => by
    rw [cntI_row]
    have h0 := hA.n1
    exact List.length_pos_of_mem (keysG_mem.2 ⟨0, by omega, rfl⟩)
  | i + 1, h => by
    have h1 := cnt_grow hA i fun j hj => h j (by omega)
    have h2 := h i (by omega)
    have h3 := cntI_up hA i
    omega
/-- After as many rounds as there are states all is done. -/
theorem eqN_done (hA : AuV a k) (hs : s < a.next.length) (ht : t < a.next.length) (h : eqN a k a.next.length s t) : ∀ d, eqN a k d s t := by
  have hex : ∃ i, i ≤ a.next.length ∧ cntI a (i + 1) = cntI a i := by
    refine Classical.byContradiction fun hn => ?_
    have h1 := cnt_grow hA a.next.length fun j hj e => hn ⟨j, by omega, e⟩
    have h2 := cntI_le a a.next.length
    omega
  obtain ⟨i, hi, e⟩ := hex
  intro d
  obtain ⟨f, hf⟩ : ∃ f, a.next.length = i + f := ⟨a.next.length - i, by omega⟩
  have h1 : eqN a k i s t := eqN_down f (by rw [← hf]; exact h)
  by_cases hd : d ≤ i
  · obtain ⟨g, hg⟩ : ∃ g, i = d + g := ⟨i - d, by omega⟩
    exact eqN_down g (by rw [← hg]; exact h1)
  · obtain ⟨g, hg⟩ : ∃ g, d = i + g := ⟨d - i, by omega⟩
    rw [hg]
    exact eq_stable hA e g hs ht h1
theorem clsI_same (hA : AuV a k) {i j : Nat} (h : ∀ s t, s < a.next.length → t < a.next.length → (eqN a k i s t ↔ eqN a k j s t)) : clsI a i = clsI a j := by
  rw [clsI_row, clsI_row]
  exact (classL_same fun s t hs ht => by rw [rowI_eq hA hs ht, rowI_eq hA hs ht]; exact h s t hs ht).1
/-- The program stops with these classes. -/
theorem clsI_stop (hA : AuV a k) (h : cntI a (i + 1) = cntI a i) : clsI a i = clsI a a.next.length := by
  refine clsI_same hA fun s t hs ht => ⟨fun e => ?_, fun e => eqN_done hA hs ht e i⟩
  by_cases hd : a.next.length ≤ i
  · obtain ⟨g, hg⟩ : ∃ g, i = a.next.length + g := ⟨i - a.next.length, by omega⟩
    exact eqN_down g (by rw [← hg]; exact e)
  · obtain ⟨g, hg⟩ : ∃ g, a.next.length = i + g := ⟨a.next.length - i, by omega⟩
    rw [hg]
    exact eq_stable hA h g hs ht e
end

/-! The merged automaton. -/
def firstsC (c : List Int) : Nat → List Nat
  | 0 => []
  | s + 1 => if c.getD s 0 < (firstsC c s).length then firstsC c s else firstsC c s ++ [s]
def clsA (a : Au) : List Int := clsI a a.next.length
def mergeA (a : Au) : Au := ⟨a.letters, (clsA a).getD a.start.toNat 0, (firstsC (clsA a) a.next.length).map fun s => (a.next.getD s []).map fun y => (clsA a).getD y.toNat 0, (firstsC (clsA a) a.next.length).map fun s => a.prio.getD s []⟩
def mergeF (a : Au) : Au := if validA a then mergeA a else noAu

section
variable {R : Nat → List Int} {n m s : Nat}
theorem firsts_len : ∀ {m : Nat}, m ≤ n → (firstsC (classL R n) m).length = (keysG R m).length
  | 0, _ => rfl
  | m + 1, h => by
    have ih := firsts_len (m := m) (by omega)
    have e1 : (classL R n).getD m 0 = ((keysG R (m + 1)).idxOf (R m) : Int) := by rw [classL_at (by omega), cls_stay (by omega) h]
    unfold firstsC
    by_cases hr : R m ∈ keysG R m
    · have e2 : keysG R (m + 1) = keysG R m := by
        show (if R m ∈ keysG R m then _ else _) = _
        rw [if_pos hr]
      have := List.idxOf_lt_length_iff.2 hr
      rw [if_pos (by rw [e1, e2, ih]; omega), e2]; exact ih
    · have e2 : keysG R (m + 1) = keysG R m ++ [R m] := by
        show (if R m ∈ keysG R m then _ else _) = _
        rw [if_neg hr]
      rw [if_neg (by rw [e1, e2, idxL_new hr, ih]; omega), e2]
      simp [ih]
theorem cls_lt (hs : s < n) : 0 ≤ (classL R n).getD s 0 ∧ (classL R n).getD s 0 < (firstsC (classL R n) n).length := by
  rw [firsts_len (Nat.le_refl _), classL_at hs]
  have := List.idxOf_lt_length_iff.2 (keysG_mem (R := R).2 ⟨s, hs, rfl⟩)
  omega
theorem firsts_in (c : List Int) : ∀ {m s : Nat}, s ∈ firstsC c m → s < m
  | 0, s, h => by cases h
  | m + 1, s, h => by
    unfold firstsC at h
    split at h
    · have := firsts_in c h; omega
    · rw [List.mem_append, List.mem_singleton] at h
      rcases h with h | h
      · have := firsts_in c h; omega
      · omega
/-- The j-th of the first ones has number j. -/
theorem firsts_cls : ∀ {m : Nat}, m ≤ n → ∀ j (hj : j < (firstsC (classL R n) m).length), (classL R n).getD (firstsC (classL R n) m)[j] 0 = (j : Int)
  | 0, _, j, hj => by simp [firstsC] at hj
  | m + 1, h, j, hj => by
    have hl := firsts_len (R := R) (m := m) (n := n) (by omega)
    have hl2 := firsts_len (R := R) (m := m + 1) (n := n) h
    by_cases hc : (classL R n).getD m 0 < (firstsC (classL R n) m).length
    · have e : firstsC (classL R n) (m + 1) = firstsC (classL R n) m := by
        show (if _ then _ else _) = _
        rw [if_pos hc]
      simp only [e] at hj ⊢
      exact firsts_cls (by omega) j hj
    · have e : firstsC (classL R n) (m + 1) = firstsC (classL R n) m ++ [m] := by
        show (if _ then _ else _) = _
        rw [if_neg hc]
      simp only [e] at hj ⊢
      by_cases hj2 : j < (firstsC (classL R n) m).length
      · rw [List.getElem_append_left hj2]
        exact firsts_cls (by omega) j hj2
      · rw [List.length_append, List.length_singleton] at hj
        have hje : j = (firstsC (classL R n) m).length := by omega
        subst hje
        rw [List.getElem_append_right (Nat.le_refl _)]
        simp only [Nat.sub_self, List.getElem_cons_zero]
        have h3 : (classL R n).getD m 0 = ((keysG R (m + 1)).idxOf (R m) : Int) := by rw [classL_at (by omega), cls_stay (by omega) h]
        have h4 := List.idxOf_lt_length_iff.2 (keysG_mem (R := R) (n := m + 1).2 ⟨m, by omega, rfl⟩)
        rw [← hl2, e, List.length_append, List.length_singleton] at h4
        omega
end
theorem clsA_row (a : Au) : clsA a = classL (rowI a a.next.length) a.next.length := clsI_row a _
section
variable {a : Au} {k s t : Nat}
theorem clsA_eq (hA : AuV a k) (hs : s < a.next.length) (ht : t < a.next.length) : (clsA a).getD s 0 = (clsA a).getD t 0 ↔ ∀ d, eqN a k d s t :=
  ⟨fun h => eqN_done hA hs ht ((clsI_eq hA _ hs ht).1 h), fun h => (clsI_eq hA _ hs ht).2 (h _)⟩
theorem clsA_lt (a : Au) (hs : s < a.next.length) : 0 ≤ (clsA a).getD s 0 ∧ (clsA a).getD s 0 < (firstsC (clsA a) a.next.length).length := by
  rw [clsA_row]; exact cls_lt hs
theorem AuV.merge (hA : AuV a k) : AuV (mergeA a) k := by
  have hl : (mergeA a).next.length = (firstsC (clsA a) a.next.length).length := by simp [mergeA]
  have hp : (mergeA a).prio.length = (firstsC (clsA a) a.next.length).length := by simp [mergeA]
  have hst := hA.st
  have hn := hA.n1
  have h0 := clsA_lt a (s := a.start.toNat) (by omega)
  have hle : (firstsC (clsA a) a.next.length).length ≤ a.next.length := by rw [clsA_row, firsts_len (Nat.le_refl _)]; exact keysG_len
  have hF : ∀ s (h : s < (firstsC (clsA a) a.next.length).length), (firstsC (clsA a) a.next.length)[s] < a.next.length := fun s h => firsts_in _ (List.getElem_mem h)
  have hN : ∀ s (h : s < (firstsC (clsA a) a.next.length).length), (mergeA a).next.getD s [] = (a.next.getD (firstsC (clsA a) a.next.length)[s] []).map fun y => (clsA a).getD y.toNat 0 := fun s h => by
    rw [getD_lt _ _ _ (by omega)]; simp [mergeA]
  have hP : ∀ s (h : s < (firstsC (clsA a) a.next.length).length), (mergeA a).prio.getD s [] = a.prio.getD (firstsC (clsA a) a.next.length)[s] [] := fun s h => by
    rw [getD_lt _ _ _ (by omega)]; simp [mergeA]
  refine ⟨hA.L, hA.k1, by omega, by omega, ?_, fun s hs => ?_, fun s x hs hx => ?_, fun s x hs hx => ?_⟩
  · show 0 ≤ (clsA a).getD a.start.toNat 0 ∧ (clsA a).getD a.start.toNat 0 < _
    omega
  · rw [hl] at hs
    rw [hN s hs, hP s hs, List.length_map]
    exact hA.ln _ (hF s hs)
  · rw [hl] at hs
    have h1 := (hA.ln _ (hF s hs)).1
    have h2 := hA.nx _ x (hF s hs) hx
    rw [hN s hs, hl, getD_lt _ _ _ (by rw [List.length_map]; omega), List.getElem_map]
    rw [getD_lt _ _ _ (by omega)] at h2
    exact clsA_lt a (by omega)
  · rw [hl] at hs
    rw [hP s hs]
    exact hA.pr _ x (hF s hs) hx
end

end Go.Proofs.Ytdkpdpcecjcmcaa
