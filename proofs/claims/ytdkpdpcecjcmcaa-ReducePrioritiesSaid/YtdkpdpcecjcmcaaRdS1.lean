/- Automata that go together step by step have the same words; so have trimmed, merged and lowered ones (plain). -/
import Derived.Test.YtdkpdpcecjcmcaaRd28
import Derived.Test.YtdkpdpcecjcmcaaRdW
namespace Go.Proofs.Ytdkpdpcecjcmcaa

/-- How two automata go together: related states have the same priorities, and lead to related states. -/
structure Bis (a b : Au) (k : Nat) (R : Nat → Nat → Prop) : Prop where
  st : R a.start.toNat b.start.toNat
  pr : ∀ s t x, R s t → x < k → (a.prio.getD s []).getD x 0 = (b.prio.getD t []).getD x 0
  nx : ∀ s t x, R s t → x < k → R (nxI a s x) (nxI b t x)

section
variable {a b : Au} {k : Nat} {R : Nat → Nat → Prop}
theorem Bis.read (h : Bis a b k R) : ∀ {ls : List Int} {p q m : Int}, (∀ x ∈ ls, 0 ≤ x ∧ x < (k : Int)) → R p.toNat q.toNat → R (readF a (p, m) ls).1.toNat (readF b (q, m) ls).1.toNat ∧ (readF a (p, m) ls).2 = (readF b (q, m) ls).2
  | [], p, q, m, _, hr => ⟨hr, rfl⟩
  | x :: ls, p, q, m, hl, hr => by
    have hx := hl x List.mem_cons_self
    have hx2 : x.toNat < k := by omega
    have e : prL a p x = prL b q x := h.pr _ _ _ hr hx2
    have := Bis.read h (ls := ls) (p := nxL a p x) (q := nxL b q x) (m := min m (prL a p x)) (fun y hy => hl y (List.mem_cons_of_mem _ hy)) (h.nx _ _ _ hr hx2)
    show R (readF a (nxL a p x, min m (prL a p x)) ls).1.toNat (readF b (nxL b q x, min m (prL b q x)) ls).1.toNat ∧ (readF a (nxL a p x, min m (prL a p x)) ls).2 = (readF b (nxL b q x, min m (prL b q x)) ls).2
    rw [← e]; exact this
theorem Bis.stN (h : Bis a b k R) {w : Ls} (h1 : ∀ x ∈ w.stem, 0 ≤ x ∧ x < (k : Int)) (h2 : ∀ x ∈ w.loop, 0 ≤ x ∧ x < (k : Int)) : ∀ i, R (Proofs.Ytdkpdpcecjcmcaa.stN a w i).toNat (Proofs.Ytdkpdpcecjcmcaa.stN b w i).toNat
  | 0 => (h.read h1 h.st).1
  | i + 1 => (h.read h2 (Bis.stN h h1 h2 i)).1
theorem Bis.lsN (h : Bis a b k R) {w : Ls} (h1 : ∀ x ∈ w.stem, 0 ≤ x ∧ x < (k : Int)) (h2 : ∀ x ∈ w.loop, 0 ≤ x ∧ x < (k : Int)) (i : Nat) : Proofs.Ytdkpdpcecjcmcaa.lsN a w i = Proofs.Ytdkpdpcecjcmcaa.lsN b w i := (h.read h2 (h.stN h1 h2 i)).2

/-! Least values of sequences that come back. -/
theorem per_mul {f : Nat → Int} {j d : Nat} (h : ∀ i, f (j + i + d) = f (j + i)) (i k : Nat) : f (j + i + k * d) = f (j + i) := by
  induction k with
  | zero => simp
  | succ k ih =>
    have e : j + i + (k + 1) * d = j + (i + k * d) + d := by rw [Nat.succ_mul]; omega
    rw [e, h, ← ih]
    congr 1
    omega
theorem per_le {f : Nat → Int} {j d : Nat} {v : Int} (h : ∀ i, f (j + i + d) = f (j + i)) (hd : 0 < d) (hv : IsMin f j d v) (i : Nat) : v ≤ f (j + i) := by
  have h1 := per_mul h (i % d) (i / d)
  have h2 := Nat.mod_add_div i d
  rw [Nat.mul_comm] at h2
  rw [show j + i = j + i % d + i / d * d by omega, h1]
  exact hv.2 _ (Nat.mod_lt _ hd)
theorem min_same {f : Nat → Int} {j d j' d' : Nat} {v v' : Int} (h : ∀ i, f (j + i + d) = f (j + i)) (h' : ∀ i, f (j' + i + d') = f (j' + i)) (hd : 0 < d) (hd' : 0 < d') (hv : IsMin f j d v) (hv' : IsMin f j' d' v') : v = v' := by
  have aux : ∀ {j d j' d' : Nat} {v v' : Int}, (∀ i, f (j + i + d) = f (j + i)) → (∀ i, f (j' + i + d') = f (j' + i)) → 0 < d → 0 < d' → IsMin f j d v → IsMin f j' d' v' → v' ≤ v := by
    intro j d j' d' v v' h h' hd hd' hv hv'
    obtain ⟨⟨i, hi, e⟩, -⟩ := hv
    have h1 := per_mul h i j'
    have h2 := Nat.le_mul_of_pos_right j' hd
    have h3 := per_le h' hd' hv' (j + i + j' * d - j')
    rw [show j' + (j + i + j' * d - j') = j + i + j' * d by omega, h1, e] at h3
    exact h3
  have h1 := aux h h' hd hd' hv hv'
  have h2 := aux h' h hd' hd hv' hv
  omega
theorem min_ex (f : Nat → Int) (j : Nat) : ∀ d, 0 < d → ∃ v, IsMin f j d v
  | 0, h => absurd h (by omega)
  | 1, _ => ⟨f j, ⟨0, by omega, rfl⟩, fun i hi => by rw [show i = 0 by omega]; exact Int.le_refl _⟩
  | d + 2, _ => by
    obtain ⟨v, ⟨i, hi, e⟩, h⟩ := min_ex f j (d + 1) (by omega)
    by_cases hc : v ≤ f (j + (d + 1))
    · refine ⟨v, ⟨i, by omega, e⟩, fun q hq => ?_⟩
      by_cases h2 : q = d + 1
      · subst h2; exact hc
      · exact h q (by omega)
    · refine ⟨f (j + (d + 1)), ⟨d + 1, by omega, rfl⟩, fun q hq => ?_⟩
      by_cases h2 : q = d + 1
      · subst h2; exact Int.le_refl _
      · have := h q (by omega); omega
theorem lsN_per {w : Ls} {j d : Nat} (h : stN a w (j + d) = stN a w j) (i : Nat) : lsN a w (j + i + d) = lsN a w (j + i) := by
  unfold lsN; rw [stN_per h]
theorem Bis.word (h : Bis a b k R) {w : Ls} {x y : Bool} (h1 : ∀ x ∈ w.stem, 0 ≤ x ∧ x < (k : Int)) (h2 : ∀ x ∈ w.loop, 0 ≤ x ∧ x < (k : Int)) (ha : WordP a w x) (hb : WordP b w y) : x = y := by
  obtain ⟨j, d, v, hd, hs, hm, rfl⟩ := ha
  obtain ⟨j', d', v', hd', hs', hm', rfl⟩ := hb
  have e : Proofs.Ytdkpdpcecjcmcaa.lsN a w = Proofs.Ytdkpdpcecjcmcaa.lsN b w := funext fun i => h.lsN h1 h2 i
  rw [min_same (lsN_per hs) (fun i => by rw [e]; exact lsN_per hs' i) hd hd' hm (e ▸ hm')]
end

/-! Trimmed and merged automata. -/
section
variable {a : Au} {k : Nat}
theorem getD_idx {l : List Int} {y : Int} (h : y ∈ l) : l.getD (l.idxOf y) 0 = y := by
  rw [getD_lt _ _ _ (List.idxOf_lt_length_iff.2 h)]
  exact List.getElem_idxOf _
theorem trim_bis (hA : AuV a k) : Bis (trimA a) a k fun s t => s < (ordA a).length ∧ t = ((ordA a).getD s 0).toNat := by
  have ho := TrS.ord hA
  refine ⟨⟨ho.hd.2, ?_⟩, fun s t x h hx => ?_, fun s t x h hx => ?_⟩
  · show a.start.toNat = ((ordA a).getD (0 : Int).toNat 0).toNat
    rw [show (0 : Int).toNat = 0 from rfl, ho.hd.1]
  · obtain ⟨hs, rfl⟩ := h
    rw [trimA_pr hs]; rfl
  · obtain ⟨hs, rfl⟩ := h
    have hr := rowN_rg hA (ho.at' hs)
    have hm : (rowN a ((ordA a).getD s 0)).getD x 0 ∈ ordA a := ho.cl s hs _ (getD_mem (by omega))
    have e : nxI (trimA a) s x = (ordA a).idxOf ((rowN a ((ordA a).getD s 0)).getD x 0) := by
      unfold nxI
      rw [trimA_nx hs, idxR_at (by omega)]; rfl
    show nxI (trimA a) s x < _ ∧ ((rowN a ((ordA a).getD s 0)).getD x 0).toNat = _
    rw [e, getD_idx hm]
    exact ⟨List.idxOf_lt_length_iff.2 hm, rfl⟩
theorem trim_len : (trimA a).next.length = (ordA a).length := by simp [trimA]
theorem merge_len : (mergeA a).next.length = (firstsC (clsA a) a.next.length).length := by simp [mergeA]
/-- The first state of a class. -/
theorem merge_row {j : Nat} (hj : j < (mergeA a).next.length) : ∃ f, f < a.next.length ∧ (clsA a).getD f 0 = (j : Int) ∧ (mergeA a).next.getD j [] = (a.next.getD f []).map (fun y => (clsA a).getD y.toNat 0) ∧ (mergeA a).prio.getD j [] = a.prio.getD f [] := by
  have hj2 : j < (firstsC (clsA a) a.next.length).length := by rw [← merge_len]; exact hj
  refine ⟨(firstsC (clsA a) a.next.length)[j], firsts_in _ (List.getElem_mem hj2), ?_, ?_, ?_⟩
  · have := firsts_cls (R := rowI a a.next.length) (Nat.le_refl a.next.length) j (by rw [← clsA_row]; exact hj2)
    simpa [← clsA_row] using this
  · rw [getD_lt _ _ _ hj]; simp [mergeA]
  · rw [getD_lt _ _ _ (show j < (mergeA a).prio.length by simpa [mergeA] using hj2)]; simp [mergeA]
theorem merge_nx (hA : AuV a k) {j f x : Nat} (hf : f < a.next.length) (hx : x < k) (h : (mergeA a).next.getD j [] = (a.next.getD f []).map fun y => (clsA a).getD y.toNat 0) : nxI (mergeA a) j x = ((clsA a).getD (nxI a f x) 0).toNat := by
  unfold nxI
  rw [h, getD_lt _ _ _ (by rw [List.length_map]; have := (hA.ln f hf).1; omega), List.getElem_map, getD_lt _ _ _ (show x < (a.next.getD f []).length by have := (hA.ln f hf).1; omega)]
theorem merge_bis (hA : AuV a k) : Bis a (mergeA a) k fun s t => s < a.next.length ∧ t = ((clsA a).getD s 0).toNat := by
  have hst := hA.st
  have key : ∀ s, s < a.next.length → ∃ f, f < a.next.length ∧ (clsA a).getD s 0 = (clsA a).getD f 0 ∧ (mergeA a).next.getD ((clsA a).getD s 0).toNat [] = (a.next.getD f []).map (fun y => (clsA a).getD y.toNat 0) ∧ (mergeA a).prio.getD ((clsA a).getD s 0).toNat [] = a.prio.getD f [] := fun s hs => by
    have h1 := clsA_lt a hs
    obtain ⟨f, hf, e, h2, h3⟩ := merge_row (a := a) (j := ((clsA a).getD s 0).toNat) (by rw [merge_len]; omega)
    exact ⟨f, hf, by omega, h2, h3⟩
  refine ⟨⟨by omega, rfl⟩, fun s t x h hx => ?_, fun s t x h hx => ?_⟩
  · obtain ⟨hs, rfl⟩ := h
    obtain ⟨f, hf, e, -, h3⟩ := key s hs
    have := (clsA_eq hA hs hf).1 e 0
    rw [h3]
    show (a.prio.getD s []).getD x 0 = _
    rw [show a.prio.getD s [] = a.prio.getD f [] from this]
  · obtain ⟨hs, rfl⟩ := h
    obtain ⟨f, hf, e, h2, -⟩ := key s hs
    have h4 := (clsA_eq hA hs hf).1 e
    refine ⟨hA.nxI hs hx, ?_⟩
    rw [merge_nx hA hf hx h2, (clsA_eq hA (hA.nxI hs hx) (hA.nxI hf hx)).2 fun d => (h4 (d + 1)).2 x hx]

/-! Lowered priorities on a loop that is gone through again and again. -/
/-- The state behind t letters of a loop that is read again and again. -/
def posQ (a : Au) (lp : List Int) (q : Int) : Nat → Int
  | 0 => q
  | t + 1 => nxL a (posQ a lp q t) (lp.getD (t % lp.length) 0)
def prQ (a : Au) (lp : List Int) (q : Int) (t : Nat) : Int := prL a (posQ a lp q t) (lp.getD (t % lp.length) 0)
theorem posQ_round {lp : List Int} (q : Int) (i : Nat) (m : Int) : ∀ n, n ≤ lp.length → (readF a (posQ a lp q (i * lp.length), m) (lp.take n)).1 = posQ a lp q (i * lp.length + n)
  | 0, _ => rfl
  | n + 1, h => by
    have ih := posQ_round (lp := lp) q i m n (by omega)
    rw [List.take_succ_eq_append_getElem (by omega), readF_snoc]
    show nxL a _ _ = nxL a (posQ a lp q (i * lp.length + n)) (lp.getD ((i * lp.length + n) % lp.length) 0)
    rw [ih, Nat.mul_add_mod_self_right, Nat.mod_eq_of_lt (by omega), getD_lt _ _ _ (by omega)]
theorem posQ_add {lp : List Int} (q : Int) (i t : Nat) : posQ a lp q (i * lp.length + t) = posQ a lp (posQ a lp q (i * lp.length)) t := by
  induction t with
  | zero => rfl
  | succ t ih =>
    show nxL a (posQ a lp q (i * lp.length + t)) (lp.getD ((i * lp.length + t) % lp.length) 0) = nxL a (posQ a lp (posQ a lp q (i * lp.length)) t) _
    rw [ih, Nat.mul_add_mod_self_right]
theorem stN_posQ {w : Ls} (j : Nat) : ∀ i, stN a w (j + i) = posQ a w.loop (stN a w j) (i * w.loop.length)
  | 0 => by rw [Nat.zero_mul]; rfl
  | i + 1 => by
    show (readF a (stN a w (j + i), 20000) w.loop).1 = _
    have := posQ_round (a := a) (lp := w.loop) (stN a w j) i 20000 w.loop.length (Nat.le_refl _)
    rw [List.take_length] at this
    rw [stN_posQ j i, this, Nat.succ_mul]
theorem prQ_min {lp : List Int} (q : Int) (i : Nat) : ∀ n, n ≤ lp.length → ((readF a (posQ a lp q (i * lp.length), 20000) (lp.take n)).2 = 20000 ∨ ∃ t, (readF a (posQ a lp q (i * lp.length), 20000) (lp.take n)).2 = prQ a lp q t) ∧ (readF a (posQ a lp q (i * lp.length), 20000) (lp.take n)).2 ≤ 20000 ∧ ∀ t, t < n → (readF a (posQ a lp q (i * lp.length), 20000) (lp.take n)).2 ≤ prQ a lp q (i * lp.length + t)
  | 0, _ => ⟨.inl rfl, Int.le_refl _, fun t h => absurd h (by omega)⟩
  | n + 1, h => by
    obtain ⟨h1, h2, h3⟩ := prQ_min (lp := lp) q i n (by omega)
    have ep := posQ_round (a := a) q i 20000 n (lp := lp) (by omega)
    have er : prQ a lp q (i * lp.length + n) = prL a (posQ a lp q (i * lp.length + n)) lp[n] := by
      unfold prQ
      rw [Nat.mul_add_mod_self_right, Nat.mod_eq_of_lt (by omega), getD_lt _ _ _ (by omega)]
    rw [List.take_succ_eq_append_getElem (by omega), readF_snoc]
    simp only [ep, ← er]
    generalize (readF a (posQ a lp q (i * lp.length), 20000) (lp.take n)).2 = M at *
    refine ⟨?_, by omega, fun t ht => ?_⟩
    · by_cases hc : M ≤ prQ a lp q (i * lp.length + n)
      · rw [Int.min_eq_left hc]; exact h1
      · rw [Int.min_eq_right (by omega)]; exact .inr ⟨_, rfl⟩
    · by_cases e : t = n
      · subst e; omega
      · have := h3 t (by omega); omega
/-- The least priority of a loop that comes back, told by its single steps. -/
theorem loop_min (hA : AuV a k) {w : Ls} (h2 : ∀ x ∈ w.loop, 0 ≤ x ∧ x < (k : Int)) (h3 : 0 < w.loop.length) (hw : validI a.letters w = true) {j d : Nat} {v : Int} (hd : 0 < d) (hs : stN a w (j + d) = stN a w j) (hm : IsMin (lsN a w) j d v) :
    (∃ t, prQ a w.loop (stN a w j) t = v) ∧ ∀ t, v ≤ prQ a w.loop (stN a w j) t := by
  have hle : ∀ t, v ≤ prQ a w.loop (stN a w j) t := fun t => by
    have h4 := per_le (lsN_per hs) hd hm (t / w.loop.length)
    obtain ⟨-, -, h5⟩ := prQ_min (a := a) (lp := w.loop) (stN a w j) (t / w.loop.length) w.loop.length (Nat.le_refl _)
    rw [List.take_length, ← stN_posQ] at h5
    have h6 := h5 (t % w.loop.length) (Nat.mod_lt _ h3)
    rw [show t / w.loop.length * w.loop.length + t % w.loop.length = t by rw [Nat.mul_comm]; exact Nat.div_add_mod t _] at h6
    exact Int.le_trans h4 h6
  refine ⟨?_, hle⟩
  obtain ⟨⟨i, hi, e⟩, -⟩ := hm
  obtain ⟨h4, -, -⟩ := prQ_min (a := a) (lp := w.loop) (stN a w j) i w.loop.length (Nat.le_refl _)
  rw [List.take_length, ← stN_posQ] at h4
  rcases h4 with h4 | ⟨t, h4⟩
  · have e2 : v = 20000 := by rw [← e]; exact h4
    have h5 := hle 0
    refine ⟨0, ?_⟩
    have hq := stN_bd hA.valid hw j
    have hx : 0 ≤ w.loop.getD (0 % w.loop.length) 0 ∧ w.loop.getD (0 % w.loop.length) 0 < (k : Int) := h2 _ (getD_mem (Nat.mod_lt _ h3))
    have h6 : prQ a w.loop (stN a w j) 0 ≤ 20000 := (hA.pr (stN a w j).toNat (w.loop.getD (0 % w.loop.length) 0).toNat (by omega) (by omega)).2
    omega
  · exact ⟨t, by rw [← h4]; exact e⟩
theorem posQ_bd (hA : AuV a k) {lp : List Int} (h2 : ∀ x ∈ lp, 0 ≤ x ∧ x < (k : Int)) (h3 : 0 < lp.length) {q : Int} (hq : 0 ≤ q ∧ q < a.next.length) : ∀ t, 0 ≤ posQ a lp q t ∧ posQ a lp q t < a.next.length
  | 0 => hq
  | t + 1 => by
    have ih := posQ_bd hA h2 h3 hq t
    have hx := h2 _ (getD_mem (l := lp) (x := t % lp.length) (Nat.mod_lt _ h3))
    exact hA.nx (posQ a lp q t).toNat (lp.getD (t % lp.length) 0).toNat (by omega) (by omega)
theorem posQ_per {lp : List Int} {q : Int} {d : Nat} (h : posQ a lp q (d * lp.length) = q) (t : Nat) : posQ a lp q (t + d * lp.length) = posQ a lp q t := by
  rw [Nat.add_comm, posQ_add, h]
theorem posQ_mul {lp : List Int} {q : Int} {d : Nat} (h : posQ a lp q (d * lp.length) = q) (t m : Nat) : posQ a lp q (t + m * (d * lp.length)) = posQ a lp q t := by
  induction m with
  | zero => simp
  | succ m ih => rw [Nat.succ_mul, ← Nat.add_assoc, posQ_per h, ih]
theorem prios_posQ (lp : List Int) (q : Int) (t : Nat) : posQ (priosA a) lp q t = posQ a lp q t := by
  induction t with
  | zero => rfl
  | succ t ih =>
    show nxL (priosA a) (posQ (priosA a) lp q t) _ = nxL a (posQ a lp q t) _
    rw [ih]; rfl
/-- On a loop that comes back the least new priority has the parity of the least old one. -/
theorem prios_cycle (hA : AuV a k) {lp : List Int} (h2 : ∀ x ∈ lp, 0 ≤ x ∧ x < (k : Int)) (h3 : 0 < lp.length) {q : Int} (hq : 0 ≤ q ∧ q < a.next.length) {d : Nat} (hd : 0 < d) (hc : posQ a lp q (d * lp.length) = q) {v v' : Int}
    (hv : (∃ t, prQ a lp q t = v) ∧ ∀ t, v ≤ prQ a lp q t) (hv' : (∃ t, prQ (priosA a) lp q t = v') ∧ ∀ t, v' ≤ prQ (priosA a) lp q t) : v % 2 = v' % 2 := by
  have hk : a.letters.toNat = k := by have := hA.L; omega
  have hlt : ∀ t, (lp.getD (t % lp.length) 0).toNat < k := fun t => by
    have hx := h2 _ (getD_mem (l := lp) (x := t % lp.length) (Nat.mod_lt _ h3))
    omega
  have hb := posQ_bd hA h2 h3 hq
  let mv : Nat → Mv := fun t => ((posQ a lp q t).toNat, (lp.getD (t % lp.length) 0).toNat)
  have hS : ∀ t, AllM a.letters.toNat a (mv t) := fun t => ⟨by have := hb t; show (posQ a lp q t).toNat < _; omega, by rw [hk]; exact hlt t⟩
  have htg : ∀ t, tgN a.next (mv t) = (mv (t + 1)).1 := fun t => rfl
  have hval := fun t => valF_is a (hS t)
  have hnew : ∀ t, prQ (priosA a) lp q t = valF a (mv t) := fun t => by
    unfold prQ prL
    rw [prios_posQ]
    exact priosA_at a (hS t).1 (hS t).2
  have hway : ∀ t n, Rch (EdS (tgN a.next) fun m => ∃ t, m = mv t) (mv t).1 (mv (t + n)).1 := fun t n => by
    induction n with
    | zero => exact Rch.refl _
    | succ n ih => exact ih.trans (Rch.one ⟨mv (t + n), ⟨_, rfl⟩, rfl, htg _⟩)
  have h9 : 0 < d * lp.length := Nat.mul_pos hd h3
  refine Val.cycle (hval 0) (fun m => ∃ t, m = mv t) ⟨0, rfl⟩ (fun x hx => ?_) (fun x y hx hy => ?_) (f := valF a) (fun x hx => ?_) v v' ⟨?_, fun x hx => ?_⟩ ⟨?_, fun x hx => ?_⟩
  · obtain ⟨t, rfl⟩ := hx; exact hS t
  · obtain ⟨t, rfl⟩ := hx
    obtain ⟨u, rfl⟩ := hy
    rw [htg]
    have e : (mv u).1 = (mv (t + 1 + (u + (t + 1) * (d * lp.length) - (t + 1)))).1 := by
      have h10 := Nat.le_mul_of_pos_right (t + 1) h9
      show (posQ a lp q u).toNat = (posQ a lp q _).toNat
      rw [show t + 1 + (u + (t + 1) * (d * lp.length) - (t + 1)) = u + (t + 1) * (d * lp.length) by omega, posQ_mul hc]
    rw [e]
    exact hway _ _
  · obtain ⟨t, rfl⟩ := hx; exact hval t
  · obtain ⟨t, e⟩ := hv.1; exact ⟨mv t, ⟨t, rfl⟩, e⟩
  · obtain ⟨t, rfl⟩ := hx; exact hv.2 t
  · obtain ⟨t, e⟩ := hv'.1; exact ⟨mv t, ⟨t, rfl⟩, by rw [← hnew]; exact e⟩
  · obtain ⟨t, rfl⟩ := hx; rw [← hnew]; exact hv'.2 t
theorem prios_read (q m m' : Int) (ls : List Int) : (readF (priosA a) (q, m) ls).1 = (readF a (q, m') ls).1 := by
  induction ls generalizing q m m' with
  | nil => rfl
  | cons x ls ih => exact ih _ _ _
theorem prios_stN (w : Ls) : ∀ i, stN (priosA a) w i = stN a w i
  | 0 => prios_read _ _ _ _
  | i + 1 => by
    show (readF (priosA a) (stN (priosA a) w i, 20000) w.loop).1 = (readF a (stN a w i, 20000) w.loop).1
    rw [prios_stN w i]; exact prios_read _ _ _ _
theorem prios_word (hA : AuV a k) {w : Ls} {x y : Bool} (hw : validI a.letters w = true) (ha : WordP a w x) (hb : WordP (priosA a) w y) : x = y := by
  obtain ⟨h1, h2, h3⟩ := valid_let hw
  have hL := hA.L
  rw [hL] at h1 h2
  obtain ⟨j, d, v, hd, hs, hm, rfl⟩ := ha
  obtain ⟨j', d', v', hd', hs', hm', rfl⟩ := hb
  have hsp : stN (priosA a) w (j + d) = stN (priosA a) w j := by rw [prios_stN, prios_stN]; exact hs
  obtain ⟨u, hu⟩ := min_ex (lsN (priosA a) w) j d hd
  have e := min_same (lsN_per hsp) (lsN_per hs') hd hd' hu hm'
  subst e
  have g1 := loop_min hA h2 h3 hw hd hs hm
  have g2 := loop_min hA.prios h2 h3 hw hd hsp hu
  rw [prios_stN] at g2
  have hq := stN_bd hA.valid hw j
  have hc : posQ a w.loop (stN a w j) (d * w.loop.length) = stN a w j := by rw [← stN_posQ]; exact hs
  have h5 := prios_cycle hA h2 h3 hq hd hc g1 g2
  have hb := fun t => posQ_bd hA h2 h3 hq t
  have n1 : 0 ≤ v := by
    obtain ⟨⟨t, e⟩, -⟩ := g1
    have hx := h2 _ (getD_mem (l := w.loop) (x := t % w.loop.length) (Nat.mod_lt _ h3))
    have := (hA.pr _ (w.loop.getD (t % w.loop.length) 0).toNat (show (posQ a w.loop (stN a w j) t).toNat < _ by have := hb t; omega) (by omega)).1
    rw [← e]; exact this
  have n2 : 0 ≤ u := by
    obtain ⟨⟨t, e⟩, -⟩ := g2
    have hx := h2 _ (getD_mem (l := w.loop) (x := t % w.loop.length) (Nat.mod_lt _ h3))
    have := (hA.prios.pr _ (w.loop.getD (t % w.loop.length) 0).toNat (show (posQ (priosA a) w.loop (stN a w j) t).toNat < _ by rw [prios_posQ]; have := hb t; show _ < a.next.length; omega) (by omega)).1
    rw [← e]; exact this
  have t1 : Int.tmod v 2 = v % 2 := Int.tmod_eq_emod_of_nonneg n1
  have t2 : Int.tmod u 2 = u % 2 := Int.tmod_eq_emod_of_nonneg n2
  rw [t1, t2, h5]
end

end Go.Proofs.Ytdkpdpcecjcmcaa
