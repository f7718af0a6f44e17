/- The law ArenaWords, its plain part: runs of an automaton, the play's places, the least priority over a cycle. -/
import Derived.Test.YtjadeffdcbchnaaDoorArX
import Derived.Test.YtjadeffdcbchnaaDoorAr40
namespace Go.Proofs.YtjadeffdcbchnaaDoor

def nxL (a : Au) (q x : Int) : Int := (a.next.getD q.toNat []).getD x.toNat 0
def prL (a : Au) (q x : Int) : Int := (a.prio.getD q.toNat []).getD x.toNat 0
/-- The state and the least priority behind some letters. -/
def readF (a : Au) (s : Int × Int) (ls : List Int) : Int × Int := ls.foldl (fun s x => (nxL a s.1 x, min s.2 (prL a s.1 x))) s
theorem readF_snoc (a : Au) (s : Int × Int) (ls : List Int) (x : Int) : readF a s (ls ++ [x]) = (nxL a (readF a s ls).1 x, min (readF a s ls).2 (prL a (readF a s ls).1 x)) := by simp [readF]
theorem readF_st (a : Au) (q m m' : Int) (ls : List Int) : (readF a (q, m) ls).1 = (readF a (q, m') ls).1 := by
  induction ls generalizing q m m' with
  | nil => rfl
  | cons x ls ih => exact ih _ _ _
theorem readF_min (a : Au) (q m c : Int) (ls : List Int) : (readF a (q, min m c) ls).2 = min m (readF a (q, c) ls).2 := by
  induction ls generalizing q c with
  | nil => rfl
  | cons x ls ih =>
    show (readF a (_, min (min m c) _) ls).2 = min m (readF a (_, min c _) ls).2
    rw [← ih]
    congr 2
    simp only [Prod.mk.injEq, true_and]
    omega
/-- The state behind the stem and i rounds of the loop, the least priority of the round behind. -/
def stN (a : Au) (w : Ls) : Nat → Int
  | 0 => (readF a (a.start, 20000) w.stem).1
  | i + 1 => (readF a (stN a w i, 20000) w.loop).1
def lsN (a : Au) (w : Ls) (i : Nat) : Int := (readF a (stN a w i, 20000) w.loop).2

/-- A least value over a stretch. -/
def IsMin (f : Nat → Int) (j d : Nat) (v : Int) : Prop := (∃ i, i < d ∧ f (j + i) = v) ∧ ∀ i, i < d → v ≤ f (j + i)
theorem stN_per {a : Au} {w : Ls} {j d : Nat} (h : stN a w (j + d) = stN a w j) : ∀ i, stN a w (j + i + d) = stN a w (j + i) := by
  intro i
  induction i with
  | zero => exact h
  | succ i ih =>
    have e1 : j + (i + 1) + d = (j + i + d) + 1 := by omega
    have e2 : j + (i + 1) = (j + i) + 1 := by omega
    rw [e1, e2]
    show (readF a (stN a w (j + i + d), 20000) w.loop).1 = (readF a (stN a w (j + i), 20000) w.loop).1
    rw [ih]
theorem stN_mul {a : Au} {w : Ls} {j d : Nat} (h : stN a w (j + d) = stN a w j) (i k : Nat) : stN a w (j + i + k * d) = stN a w (j + i) := by
  induction k with
  | zero => simp
  | succ k ih =>
    have e : j + i + (k + 1) * d = j + (i + k * d) + d := by rw [Nat.succ_mul]; omega
    rw [e, stN_per h, ← ih]
    congr 1
    omega
theorem stN_mod {a : Au} {w : Ls} {j d : Nat} (h : stN a w (j + d) = stN a w j) (i : Nat) : stN a w (j + i) = stN a w (j + i % d) := by
  have := stN_mul h (i % d) (i / d)
  rw [← this]
  congr 1
  have := Nat.mod_add_div i d
  rw [Nat.mul_comm] at this
  omega
theorem cyc_sub {a : Au} {w : Ls} {j d m d' : Nat} (h : stN a w (j + d) = stN a w j) (h' : stN a w (m + d') = stN a w m) (hd : 0 < d) (hd' : 0 < d') (i : Nat) : ∃ i', i' < d' ∧ stN a w (m + i') = stN a w (j + i) := by
  have h1 := stN_mul h i m
  obtain ⟨x, hx⟩ : ∃ x, j + i + m * d = m + x := ⟨j + i + m * d - m, by have := Nat.le_mul_of_pos_right m hd; omega⟩
  rw [hx, stN_mod h'] at h1
  exact ⟨x % d', Nat.mod_lt _ hd', h1⟩
theorem cyc_min {a : Au} {w : Ls} {j d m d' : Nat} (h : stN a w (j + d) = stN a w j) (h' : stN a w (m + d') = stN a w m) (hd : 0 < d) (hd' : 0 < d') {v v' : Int} (hv : IsMin (lsN a w) j d v) (hv' : IsMin (lsN a w) m d' v') : v = v' := by
  have aux : ∀ {j d m d' : Nat} {v v' : Int}, stN a w (j + d) = stN a w j → stN a w (m + d') = stN a w m → 0 < d → 0 < d' → IsMin (lsN a w) j d v → IsMin (lsN a w) m d' v' → v' ≤ v := by
    intro j d m d' v v' h h' hd hd' hv hv'
    obtain ⟨⟨i, hi, e⟩, -⟩ := hv
    obtain ⟨i', hi', e'⟩ := cyc_sub h h' hd hd' i
    have := hv'.2 i' hi'
    have e2 : lsN a w (m + i') = lsN a w (j + i) := by unfold lsN; rw [e']
    omega
  have h1 := aux h h' hd hd' hv hv'
  have h2 := aux h' h hd' hd hv' hv
  omega

/-- The place behind some letters. -/
def readP (a : Au) (y : Pl) (ls : List Int) : Pl := ls.foldl (fun y x => ⟨nxL a y.st x, -1, prL a y.st x⟩) y
theorem readP_snoc (a : Au) (y : Pl) (ls : List Int) (x : Int) : readP a y (ls ++ [x]) = ⟨nxL a (readP a y ls).st x, -1, prL a (readP a y ls).st x⟩ := by simp [readP]
theorem readP_st (a : Au) (y : Pl) (m : Int) (ls : List Int) : (readP a y ls).st = (readF a (y.st, m) ls).1 := by
  induction ls generalizing y m with
  | nil => rfl
  | cons x ls ih => exact ih _ _
def plN (a : Au) (w : Ls) : Nat → Pl
  | 0 => readP a ⟨a.start, -1, topA a⟩ w.stem
  | i + 1 => readP a (plN a w i) w.loop
theorem plN_st (a : Au) (w : Ls) (i : Nat) : (plN a w i).st = stN a w i := by
  induction i with
  | zero => exact readP_st _ _ _ _
  | succ i ih =>
    show (readP a (plN a w i) w.loop).st = (readF a (stN a w i, 20000) w.loop).1
    rw [readP_st a _ 20000, ih]

theorem le_maxR (m : Int) (row : List Int) : m ≤ maxR m row ∧ ∀ x ∈ row, x ≤ maxR m row := by
  unfold maxR
  induction row generalizing m with
  | nil => exact ⟨Int.le_refl _, fun x hx => absurd hx (by simp)⟩
  | cons y row ih =>
    rw [List.foldl_cons]
    obtain ⟨h1, h2⟩ := ih (max m y)
    refine ⟨by omega, fun x hx => ?_⟩
    rcases List.mem_cons.1 hx with rfl | hx
    · omega
    · exact h2 x hx
theorem le_foldR (m : Int) (rows : List (List Int)) : m ≤ rows.foldl maxR m ∧ ∀ row ∈ rows, ∀ x ∈ row, x ≤ rows.foldl maxR m := by
  induction rows generalizing m with
  | nil => exact ⟨Int.le_refl _, fun x hx => absurd hx (by simp)⟩
  | cons y rows ih =>
    rw [List.foldl_cons]
    obtain ⟨h1, h2⟩ := ih (maxR m y)
    obtain ⟨h3, h4⟩ := le_maxR m y
    refine ⟨by omega, fun row hr x hx => ?_⟩
    rcases List.mem_cons.1 hr with rfl | hr
    · have := h4 x hx; omega
    · exact h2 row hr x hx

section
variable {a : Au} {l : List Sig} {most : Nat} {r : List Pl}
/-- One letter, chosen as an input and an output. -/
theorem letter_at (hs : validS l = true) (hv : validA a = true) (he : a.letters = lettersI l) (h : buildP a l most = some r) {y : Pl} (hy : y ∈ r) (hi : y.inn = -1) {x : Int} (hx0 : 0 ≤ x) (hx1 : x < a.letters) :
    ∃ i o mid tt : Nat, halfI l true x = i ∧ halfI l false x = o ∧ i < (succPl a (joinT l) y).length ∧ (numsP r (succPl a (joinT l) y)).getD i 0 = (mid : Int) ∧ mid < r.length ∧
      (∃ z, r.getD mid y = z ∧ z ∈ r ∧ 0 ≤ z.inn ∧ o < (succPl a (joinT l) z).length ∧ (numsP r (succPl a (joinT l) z)).getD o 0 = (tt : Int)) ∧ tt < r.length ∧ r.getD tt y = ⟨nxL a y.st x, -1, prL a y.st x⟩ ∧
      r.idxOf ⟨nxL a y.st x, -1, prL a y.st x⟩ = tt ∧ (⟨nxL a y.st x, -1, prL a y.st x⟩ : Pl) ∈ r ∧ (0 ≤ prL a y.st x ∧ prL a y.st x ≤ topA a) := by
  have F := found_of h
  have hA := auOK hs hv he
  have hok := places_ok hv hA h
  obtain ⟨⟨a1, a2⟩, ⟨b1, b2⟩, c⟩ := halves_law hs hx0 (by omega)
  obtain ⟨i, hi'⟩ := Int.eq_ofNat_of_zero_le a1
  obtain ⟨o, ho'⟩ := Int.eq_ofNat_of_zero_le b1
  rw [hi', ho'] at c
  have hjt := joinT_len l
  have hiI : i < (inputsI l).toNat := by omega
  have hoO : o < (outputsI l).toNat := by omega
  obtain ⟨j, hj, hjy⟩ := List.mem_iff_getElem.1 hy
  have e1 : succPl a (joinT l) y = (List.range (joinT l).length).map fun (i : Nat) => (⟨y.st, (i : Int), -1⟩ : Pl) := by unfold succPl; rw [if_pos (by omega)]
  have l1 : (succPl a (joinT l) y).length = (inputsI l).toNat := by rw [e1, List.length_map, List.length_range, hjt]
  have g1 : (succPl a (joinT l) y)[i]? = some ⟨y.st, (i : Int), -1⟩ := by
    rw [e1, List.getElem?_map, List.getElem?_range (by omega)]; rfl
  have m1 : (⟨y.st, (i : Int), -1⟩ : Pl) ∈ r := by
    have := F.closed hj ⟨y.st, (i : Int), -1⟩
    rw [hjy] at this
    exact this (List.mem_of_getElem? g1)
  obtain ⟨j2, hj2, hjz⟩ := List.mem_iff_getElem.1 m1
  have e2 : succPl a (joinT l) ⟨y.st, (i : Int), -1⟩ = ((joinT l).getD i []).map fun v => ⟨nxL a y.st v, -1, prL a y.st v⟩ := by
    unfold succPl
    rw [if_neg (by show ¬ (i : Int) < 0; omega)]
    show List.map _ ((joinT l).getD (i : Int).toNat []) = _
    rw [Int.toNat_natCast]; rfl
  have l2 : (succPl a (joinT l) ⟨y.st, (i : Int), -1⟩).length = (outputsI l).toNat := by rw [e2, List.length_map, joinT_row hiI, List.length_map, List.length_range]
  have g2 : (succPl a (joinT l) ⟨y.st, (i : Int), -1⟩)[o]? = some ⟨nxL a y.st x, -1, prL a y.st x⟩ := by
    rw [e2, joinT_row hiI, List.getElem?_map, List.getElem?_map, List.getElem?_range hoO]
    simp only [Option.map_some]
    rw [c]
  have m2 : (⟨nxL a y.st x, -1, prL a y.st x⟩ : Pl) ∈ r := by
    have := F.closed hj2 ⟨nxL a y.st x, -1, prL a y.st x⟩
    rw [hjz] at this
    exact this (List.mem_of_getElem? g2)
  have hq := (hok y hy).1.st
  have hrow := validA_row hv (s := y.st.toNat) (by omega)
  have hpr := validA_pr hv (s := y.st.toNat) (by omega) x.toNat (by omega)
  have hpl := hA.pl
  have htop : prL a y.st x ≤ topA a := by
    have h1 : y.st.toNat < a.prio.length := by omega
    have h2 : x.toNat < (a.prio.getD y.st.toNat []).length := by omega
    refine (le_foldR 0 a.prio).2 (a.prio.getD y.st.toNat []) (by rw [getD_lt _ _ _ h1]; exact List.getElem_mem h1) _ ?_
    unfold prL
    rw [getD_lt _ _ _ h2]
    exact List.getElem_mem h2
  have k1 := idx_lt m1
  have k2 := idx_lt m2
  refine ⟨i, o, _, _, hi', ho', by omega, ?_, k1, ⟨⟨y.st, (i : Int), -1⟩, ?_, m1, by show (0 : Int) ≤ (i : Int); omega, by omega, ?_⟩, k2, ?_, rfl, m2, hpr.1, htop⟩
  · unfold numsP
    rw [List.getD, List.getElem?_map, g1]; rfl
  · rw [getD_lt _ _ _ k1, List.getElem_idxOf]
  · unfold numsP
    rw [List.getD, List.getElem?_map, g2]; rfl
  · rw [getD_lt _ _ _ k2, List.getElem_idxOf]
theorem readP_mem (hs : validS l = true) (hv : validA a = true) (he : a.letters = lettersI l) (h : buildP a l most = some r) {ls : List Int} (hl : ∀ x ∈ ls, 0 ≤ x ∧ x < a.letters) : ∀ {y : Pl}, y ∈ r → y.inn = -1 → readP a y ls ∈ r ∧ (readP a y ls).inn = -1 := by
  induction ls with
  | nil => intro y hy hi; exact ⟨hy, hi⟩
  | cons x ls ih =>
    intro y hy hi
    have hx := hl x List.mem_cons_self
    obtain ⟨i, o, mid, tt, -, -, -, -, -, -, -, -, -, m, -⟩ := letter_at hs hv he h hy hi hx.1 hx.2
    exact ih (fun z hz => hl z (List.mem_cons_of_mem _ hz)) m rfl
theorem plN_mem (hs : validS l = true) (hv : validA a = true) (he : a.letters = lettersI l) (h : buildP a l most = some r) {w : Ls} (h1 : ∀ x ∈ w.stem, 0 ≤ x ∧ x < a.letters) (h2 : ∀ x ∈ w.loop, 0 ≤ x ∧ x < a.letters) (i : Nat) : plN a w i ∈ r ∧ (plN a w i).inn = -1 := by
  induction i with
  | zero => exact readP_mem hs hv he h h1 (List.mem_of_getElem? (found_of h).hd) rfl
  | succ i ih => exact readP_mem hs hv he h h2 ih.1 ih.2
/-- A sequence of members of a list comes back. -/
theorem comes_back {α : Type} [DecidableEq α] {f : Nat → α} {r : List α} (h : ∀ i, f i ∈ r) : ∃ i j, i < j ∧ j ≤ r.length ∧ f i = f j := by
  by_cases hn : ∃ i j, i < j ∧ j ≤ r.length ∧ f i = f j
  · exact hn
  · exfalso
    have hnd : ((List.range (r.length + 1)).map f).Nodup := by
      rw [List.nodup_iff_pairwise_ne, List.pairwise_map, List.pairwise_iff_getElem]
      intro i j hi hj hij e
      simp only [List.getElem_range] at e
      simp at hi hj
      exact hn ⟨i, j, hij, by omega, e⟩
    have hlen : ∀ {M : List α} {r : List α}, M.Nodup → (∀ x ∈ M, x ∈ r) → M.length ≤ r.length := by
      intro M
      induction M with
      | nil => intro r _ _; simp
      | cons x M ih =>
        intro r hM hsub
        rw [List.nodup_cons] at hM
        have hx := hsub x List.mem_cons_self
        have := ih (r := r.erase x) hM.2 (fun y hy => (List.mem_erase_of_ne (by rintro rfl; exact hM.1 hy)).2 (hsub y (List.mem_cons_of_mem _ hy)))
        rw [List.length_erase_of_mem hx] at this
        have hpos := List.length_pos_of_mem hx
        simp only [List.length_cons]
        omega
    have := hlen hnd (fun x hx => by obtain ⟨i, -, rfl⟩ := List.mem_map.1 hx; exact h i)
    simp at this
    omega
theorem plN_back {w : Ls} (hm : ∀ i, plN a w i ∈ r) : ∃ d, 0 < d ∧ d ≤ r.length ∧ plN a w (r.length + d) = plN a w r.length := by
  obtain ⟨i, j, hij, hj, e⟩ := comes_back hm
  have hper : ∀ k, plN a w (i + k + (j - i)) = plN a w (i + k) := by
    intro k
    induction k with
    | zero => rw [Nat.add_zero, show i + (j - i) = j by omega]; exact e.symm
    | succ k ih =>
      rw [show i + (k + 1) + (j - i) = (i + k + (j - i)) + 1 by omega, show i + (k + 1) = (i + k) + 1 by omega]
      show readP a (plN a w (i + k + (j - i))) w.loop = readP a (plN a w (i + k)) w.loop
      rw [ih]
  refine ⟨j - i, by omega, by omega, ?_⟩
  have := hper (r.length - i)
  rwa [show i + (r.length - i) = r.length by omega] at this
end

end Go.Proofs.YtjadeffdcbchnaaDoor
