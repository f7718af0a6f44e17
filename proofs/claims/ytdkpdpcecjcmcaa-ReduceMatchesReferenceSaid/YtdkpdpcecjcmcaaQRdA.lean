/- Well-formed automata: what that says; the least priorities as a function (plain). -/
import Derived.Test.YtdkpdpcecjcmcaaQRd17
import Derived.Test.YtdkpdpcecjcmcaaQRd18
namespace Go.Proofs.Ytdkpdpcecjcmcaa

/-- Well-formed, with k letters. -/
structure AuV (a : Au) (k : Nat) : Prop where
  L : a.letters = (k : Int)
  k1 : 1 ≤ k ∧ k ≤ 64
  n1 : 1 ≤ a.next.length ∧ a.next.length ≤ 3000
  pn : a.prio.length = a.next.length
  st : 0 ≤ a.start ∧ a.start < a.next.length
  ln : ∀ s, s < a.next.length → (a.next.getD s []).length = k ∧ (a.prio.getD s []).length = k
  nx : ∀ s x, s < a.next.length → x < k → 0 ≤ (a.next.getD s []).getD x 0 ∧ (a.next.getD s []).getD x 0 < a.next.length
  pr : ∀ s x, s < a.next.length → x < k → 0 ≤ (a.prio.getD s []).getD x 0 ∧ (a.prio.getD s []).getD x 0 ≤ 20000
theorem AuV.of {a : Au} (h : validA a = true) : AuV a a.letters.toNat := by
  simp only [validA, Bool.and_eq_true, decide_eq_true_eq, List.all_eq_true, List.mem_range] at h
  obtain ⟨⟨⟨⟨⟨h1, h2⟩, h3, h4⟩, h5⟩, h6, h7⟩, h8⟩ := h
  have hL : a.letters = (a.letters.toNat : Int) := by omega
  refine ⟨hL, by omega, ⟨h3, h4⟩, h5, ⟨h6, h7⟩, fun s hs => ?_, fun s x hs hx => ?_, fun s x hs hx => ?_⟩
  · have := h8 s hs
    simp only [rowA, Bool.and_eq_true, decide_eq_true_eq] at this
    omega
  all_goals
    have := h8 s hs
    simp only [rowA, Bool.and_eq_true, decide_eq_true_eq, List.all_eq_true, List.mem_range] at this
    have h9 := this.2 x (by omega)
    simp only [moveA, Bool.and_eq_true, decide_eq_true_eq] at h9
    omega
theorem AuV.valid {a : Au} {k : Nat} (h : AuV a k) : validA a = true := by
  simp only [validA, Bool.and_eq_true, decide_eq_true_eq, List.all_eq_true, List.mem_range]
  have hL := h.L
  have hk := h.k1
  refine ⟨⟨⟨⟨⟨by omega, by omega⟩, h.n1⟩, h.pn⟩, h.st⟩, fun s hs => ?_⟩
  have hl := h.ln s hs
  simp only [rowA, Bool.and_eq_true, decide_eq_true_eq, List.all_eq_true, List.mem_range]
  refine ⟨⟨by omega, by omega⟩, fun x hx => ?_⟩
  have h1 := h.nx s x hs (by omega)
  have h2 := h.pr s x hs (by omega)
  simp only [moveA, Bool.and_eq_true, decide_eq_true_eq]
  exact ⟨⟨h1, h2.1⟩, h2.2⟩
theorem mem_getD {l : List Int} {x : Int} (h : x ∈ l) : ∃ j, j < l.length ∧ l.getD j 0 = x := by
  obtain ⟨j, hj, e⟩ := List.getElem_of_mem h
  exact ⟨j, hj, by rw [getD_lt _ _ _ hj]; exact e⟩
theorem AuV.ax {a : Au} {k : Nat} (h : AuV a k) (hn : a.next.length ≤ 2000) : AX k a := by
  refine ⟨⟨h.n1.2, h.k1.2, rfl, fun j hj => (h.ln j hj).1, fun j hj x hx => ?_⟩, h.pn, fun j hj => (h.ln j hj).2, fun j hj x hx => ?_, by have := h.n1; omega, by have := h.k1; omega, hn⟩
  · obtain ⟨i, hi, rfl⟩ := mem_getD hx
    exact h.nx j i hj (by have := (h.ln j hj).1; omega)
  · obtain ⟨i, hi, rfl⟩ := mem_getD hx
    exact h.pr j i hj (by have := (h.ln j hj).2; omega)
theorem AuV.i64 {a : Au} {k : Nat} (h : AuV a k) : I64 a.letters ∧ I64 a.start := by
  have h1 := h.L; have h2 := h.k1; have h3 := h.st; have h4 := h.n1
  unfold I64; omega

open Classical in
/-- The new priority of a move. -/
noncomputable def valF (a : Au) (m : Mv) : Int := if h : ∃ v, Val (tgN a.next) (prA a) (AllM a.letters.toNat a) 0 m v then h.choose else 0
theorem AllM.mem {a : Au} {k : Nat} {m : Mv} (h : AllM k a m) : m ∈ mvsU k a.next.length 0 := mvsU_mem.2 h
theorem valF_eq {a : Au} {m : Mv} {v : Int} (h : Val (tgN a.next) (prA a) (AllM a.letters.toNat a) 0 m v) : valF a m = v := by
  unfold valF
  have hx : ∃ v, Val (tgN a.next) (prA a) (AllM a.letters.toNat a) 0 m v := ⟨v, h⟩
  rw [dif_pos hx]
  exact hx.choose_spec.det h
theorem valF_is (a : Au) {m : Mv} (h : AllM a.letters.toNat a m) : Val (tgN a.next) (prA a) (AllM a.letters.toNat a) 0 m (valF a m) := by
  obtain ⟨v, hv⟩ := Val.total (l := mvsU a.letters.toNat a.next.length 0) _ (Nat.le_refl _) (fun m hm => AllM.mem hm) h (tg := tgN a.next) (pr := prA a) (b := 0)
  rw [valF_eq hv]; exact hv
/-- The automaton with the least priorities. -/
noncomputable def priosA (a : Au) : Au := ⟨a.letters, a.start, a.next, (List.range a.next.length).map fun s => (List.range a.letters.toNat).map fun x => valF a (s, x)⟩
noncomputable def priosF (a : Au) : Au := if validA a then priosA a else noAu
theorem priosA_row (a : Au) {s : Nat} (hs : s < a.next.length) : (priosA a).prio.getD s [] = (List.range a.letters.toNat).map fun x => valF a (s, x) := by
  rw [getD_lt _ _ _ (by simpa [priosA] using hs)]; simp [priosA]
theorem priosA_at (a : Au) {s x : Nat} (hs : s < a.next.length) (hx : x < a.letters.toNat) : ((priosA a).prio.getD s []).getD x 0 = valF a (s, x) := by
  rw [priosA_row a hs, getD_lt _ _ _ (by simpa using hx)]; simp
theorem AuV.prios {a : Au} {k : Nat} (h : AuV a k) : AuV (priosA a) k := by
  have hk : a.letters.toNat = k := by have := h.L; omega
  have hl : (priosA a).prio.length = a.next.length := by simp [priosA]
  refine ⟨h.L, h.k1, h.n1, hl, h.st, fun s hs => ⟨(h.ln s hs).1, by rw [priosA_row a hs, List.length_map, List.length_range, hk]⟩, h.nx, fun s x hs hx => ?_⟩
  rw [priosA_at a hs (by omega)]
  have hv := valF_is a (m := (s, x)) ⟨hs, by show x < _; omega⟩
  have h1 := hv.ge
  have h2 := hv.le_pr fun m hm => (h.pr m.1 m.2 hm.1 (by have := hm.2; omega)).1
  have h3 := h.pr s x hs hx
  have h4 : prA a (s, x) = (a.prio.getD s []).getD x 0 := rfl
  omega

/-- A row while it is filled. -/
def fillL (f : Nat → Int) (k x : Nat) : List Int := (List.range k).map fun j => if j < x then f j else 0
theorem fillL_zero (f : Nat → Int) (k : Nat) : List.replicate k 0 = fillL f k 0 := by
  apply List.ext_getElem (by simp [fillL])
  intro i h1 h2
  simp [fillL]
theorem fillL_set (f : Nat → Int) (k x : Nat) : (fillL f k x).set x (f x) = fillL f k (x + 1) := by
  apply List.ext_getElem (by simp [fillL])
  intro i h1 h2
  simp only [fillL, List.getElem_set, List.getElem_map, List.getElem_range]
  by_cases e : x = i
  · subst e; simp
  · rw [if_neg e]
    by_cases e2 : i < x
    · rw [if_pos e2, if_pos (by omega)]
    · rw [if_neg e2, if_neg (by omega)]
theorem fillL_all (f : Nat → Int) (k : Nat) : fillL f k k = (List.range k).map f := by
  apply List.ext_getElem (by simp [fillL])
  intro i h1 h2
  simp [fillL] at h1 ⊢
  intro h; omega
theorem fillL_len (f : Nat → Int) (k x : Nat) : (fillL f k x).length = k := by simp [fillL]

end Go.Proofs.Ytdkpdpcecjcmcaa
