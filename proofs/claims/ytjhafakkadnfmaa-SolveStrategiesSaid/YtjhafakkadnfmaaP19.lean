/- The queue's attractor is the reference's: the same members, the same numbers. -/
import Derived.Test.YtjhafakkadnfmaaP18
import Derived.Test.YtjhafakkadnfmaaC11
namespace Go.Proofs.Ytjhafakkadnfmaa

theorem attStep_q (g : Gm) (p u : Int) (st : Att) (v : Int) : ∃ e, (attStep g p u st v).q = st.q ++ e := by
  simp only [attStep]
  split
  · exact ⟨[v], rfl⟩
  · exact ⟨[], by simp⟩

theorem attAll_q (g : Gm) (p u : Int) (l : List Int) (st : Att) : ∃ e, (attAll g p u st l).q = st.q ++ e := by
  induction l generalizing st with
  | nil => exact ⟨[], by simp [attAll]⟩
  | cons a l ih =>
    obtain ⟨e1, h1⟩ := attStep_q g p u st a
    obtain ⟨e2, h2⟩ := ih (attStep g p u st a)
    exact ⟨e1 ++ e2, by show (attAll g p u (attStep g p u st a) l).q = _; rw [h2, h1, List.append_assoc]⟩

/-- What the rows before hold. -/
structure RowsOK (g : Gm) (n : Nat) (bf : List (List Int)) : Prop where
  ct : ∀ u, u < n → ∀ v : Nat, v < n → (bf.getD u []).count (v : Int) = (g.succ.getD v []).count (u : Int)
  me : ∀ u, u < n → ∀ x ∈ bf.getD u [], ∃ v : Nat, v < n ∧ x = v

section
variable {g : Gm} {p : Int} {t : List Bool}

theorem Inv.all {a N : Nat} {st : Att} {bf : List (List Int)} (h : Inv g p t a [] st) (hok : AttOK t.length N st) (ha : a < st.q.length) (hg : ∀ i, i < t.length → ∀ x ∈ g.succ.getD i [], 0 ≤ x ∧ x < t.length)
    (hb : RowsOK g t.length bf) (u : Nat) (hu : st.q.getD a 0 = u) (hun : u < t.length) (j : Nat) (hj : j ≤ (bf.getD u []).length) :
    Inv g p t a ((bf.getD u []).take j) (attAll g p u st ((bf.getD u []).take j)) ∧ AttOK t.length (N + j) (attAll g p u st ((bf.getD u []).take j)) := by
  induction j with
  | zero => exact ⟨by simpa [attAll] using h, by simpa [attAll] using hok⟩
  | succ j ih =>
    obtain ⟨h1, h2⟩ := ih (by omega)
    have hjl : j < (bf.getD u []).length := by omega
    obtain ⟨v, hv, hve⟩ := hb.me u hun _ (List.getElem_mem hjl)
    rw [List.take_succ_eq_append_getElem hjl, attAll_snoc, hve]
    obtain ⟨e, he⟩ := attAll_q g p u ((bf.getD u []).take j) st
    have hvc := hb.ct u hun v hv
    have hsub : ((bf.getD u []).take j ++ [(v : Int)]).count (v : Int) ≤ (bf.getD u []).count (v : Int) := by
      have h3 := List.take_succ_eq_append_getElem hjl
      rw [hve] at h3
      rw [← h3]
      exact (List.take_sublist _ _).count_le _
    have hpos : 0 < (g.succ.getD v []).count (u : Int) := by
      rw [← hvc]
      exact List.count_pos_iff.2 (hve ▸ List.getElem_mem hjl)
    refine ⟨h1.step h2 (by rw [he]; simp; omega) ?_ hv (List.count_pos_iff.1 hpos) (by rw [← hvc]; exact hsub) (hg v hv), ?_⟩
    · rw [he]
      rw [← hu]
      simp [List.getD, List.getElem?_append_left ha]
    · have := attStep_ok (g := g) (p := p) (u := u) (v := v) h2 (by omega)
      rwa [← Nat.add_assoc]

theorem countP_split (l : List Int) (P : List Int) (u : Int) (hu : u ∉ P) : l.countP (fun x => decide (x ∉ P)) = l.countP (fun x => decide (x ∉ P ++ [u])) + l.count u := by
  induction l with
  | nil => simp
  | cons y l ih =>
    rw [List.countP_cons, List.countP_cons, List.count_cons, ih]
    by_cases e : y = u
    · subst e; simp [hu] <;> omega
    · have h : (y == u) = false := by simpa using e
      by_cases e2 : y ∈ P
      · simp [e2, h]
      · simp [e2, e] <;> omega

theorem Inv.done {a : Nat} {st : Att} {u : Nat} {row : List Int} (h : Inv g p t a row st) (ha : a < st.q.length) (hu : st.q.getD a 0 = u) (hc : ∀ v : Nat, v < t.length → row.count (v : Int) = (g.succ.getD v []).count (u : Int)) :
    Inv g p t (a + 1) [] st := by
  have htk : st.q.take (a + 1) = st.q.take a ++ [(u : Int)] := by
    rw [List.take_succ_eq_append_getElem ha]
    rw [getD_lt _ _ _ ha] at hu
    rw [hu]
  have hun : (u : Int) ∉ st.q.take a := by
    intro hx
    obtain ⟨j, hj, e⟩ := mem_getD hx
    have hja : j < a := by simp at hj; omega
    have e1 : st.q.getD j 0 = u := by
      rw [getD_lt _ _ _ hj] at e
      rw [getD_lt _ _ _ (by omega), ← e]
      simp
    rw [getD_lt _ _ _ (by omega)] at e1
    rw [getD_lt _ _ _ ha] at hu
    have := (List.getElem_inj h.nd).1 (e1.trans hu.symm)
    omega
  refine { h with lf := fun v hv => ?_, ow := fun v hv hq ho => ?_, m1 := fun j hj ha1 => ?_ }
  · rw [h.lf v hv, hc v hv, htk, ← List.countP_eq_length_filter, ← List.countP_eq_length_filter, countP_split _ _ _ hun]
    simp <;> omega
  · obtain ⟨h1, h2⟩ := h.ow v hv hq ho
    refine ⟨fun x hx hxt => ?_, by simp⟩
    rw [htk, List.mem_append, List.mem_singleton] at hxt
    rcases hxt with hxt | hxt
    · exact h1 x hx hxt
    · subst hxt
      apply h2
      rw [← List.count_pos_iff, hc v hv]
      exact List.count_pos_iff.2 hx
  · have h1 := h.m1 j hj ha
    have h2 := h.mo a (a + 1) (by omega) ha1
    omega

theorem Inv.round {a N L : Nat} {st : Att} {bf : List (List Int)} (h : Inv g p t a [] st) (hok : AttOK t.length N st) (ha : a < st.q.length) (hg : ∀ i, i < t.length → ∀ x ∈ g.succ.getD i [], 0 ≤ x ∧ x < t.length)
    (hb : RowsOK g t.length bf) (_hL : ∀ j, (bf.getD j []).length ≤ L) : Inv g p t (a + 1) [] (attRound g p bf st a) ∧ a + 1 ≤ (attRound g p bf st a).q.length := by
  obtain ⟨hu0, hun⟩ := hok.qr _ (getD_mem ha)
  obtain ⟨u, hu⟩ := Int.eq_ofNat_of_zero_le hu0
  have hul : u < t.length := by omega
  rw [attRound, if_pos ha, hu, Int.toNat_natCast]
  obtain ⟨e, he⟩ := attAll_q g p u (bf.getD u []) st
  have h1 := (h.all hok ha hg hb u hu hul (bf.getD u []).length (Nat.le_refl _)).1
  rw [List.take_length] at h1
  have hlen : a < (attAll g p u st (bf.getD u [])).q.length := by rw [he]; simp; omega
  refine ⟨h1.done hlen ?_ (fun v hv => hb.ct u hul v hv), hlen⟩
  rw [he, ← hu]
  simp [List.getD, List.getElem?_append_left ha]

theorem Inv.iter {N L : Nat} {st : Att} {bf : List (List Int)} (h : Inv g p t 0 [] st) (hok : AttOK t.length N st) (hg : ∀ i, i < t.length → ∀ x ∈ g.succ.getD i [], 0 ≤ x ∧ x < t.length)
    (hb : RowsOK g t.length bf) (hL : ∀ j, (bf.getD j []).length ≤ L ∧ ∀ v ∈ bf.getD j [], 0 ≤ v ∧ v < t.length) (k : Nat) :
    Inv g p t (min k (attIter g p bf st k).q.length) [] (attIter g p bf st k) := by
  induction k with
  | zero => simpa [attIter] using h
  | succ k ih =>
    have hok1 := attIter_ok hok hL k (g := g) (p := p)
    rw [attIter]
    by_cases hk : k < (attIter g p bf st k).q.length
    · rw [Nat.min_eq_left (by omega)] at ih
      obtain ⟨h1, h2⟩ := ih.round hok1 hk hg hb (fun j => (hL j).1)
      rw [Nat.min_eq_left h2]
      exact h1
    · have : attRound g p bf (attIter g p bf st k) k = attIter g p bf st k := by rw [attRound, if_neg hk]
      rw [this]
      rw [Nat.min_eq_right (by omega)] at ih ⊢
      exact ih

theorem Inv.begin (hg : ∀ i, i < t.length → ∀ x ∈ g.succ.getD i [], 0 ≤ x ∧ x < t.length) (hne : ∀ i, i < t.length → g.succ.getD i [] ≠ []) (hS : ∀ i, (g.succ.getD i []).length ≤ 1000) :
    Inv g p t 0 [] ⟨(begSt g t t.length t.length).inn, (begSt g t t.length t.length).mv, (begSt g t t.length t.length).lf, (begSt g t t.length t.length).q⟩ ∧ RowsOK g t.length (begSt g t t.length t.length).bf := by
  have b := begSt_is g t t.length hg hS t.length (Nat.le_refl _)
  generalize begSt g t t.length t.length = s at *
  have hq : ∀ v, v < t.length → ((v : Int) ∈ s.q ↔ t.getD v false = true) := fun v hv => by
    rw [b.q]
    constructor
    · rintro ⟨j, hj, e, h⟩
      have : j = v := by omega
      subst this; exact h
    · intro h; exact ⟨v, hv, rfl, h⟩
  have hat : ∀ v : Nat, v < t.length → (Att.mk s.inn s.mv s.lf s.q).at v = if t.getD v false then 0 else -1 := fun v hv => by
    show s.mv.getD (Int.toNat v) 0 = _
    rw [Int.toNat_natCast]; exact b.mv v hv
  have hatq : ∀ j, j < s.q.length → (Att.mk s.inn s.mv s.lf s.q).at (s.q.getD j 0) = 0 := fun j hj => by
    obtain ⟨v, hv, e, h⟩ := (b.q _).1 (getD_mem hj)
    rw [e, hat v hv, h]; rfl
  refine ⟨⟨b.nd, fun i hi => ?_, fun v hv => ?_, fun v hv hqv ho => ⟨by simp, by simp⟩, fun v hv hqv ho => ?_, fun i j hij hj => ?_, fun j hj ha => ?_, fun j hj => ?_, fun v hv => ?_, fun v hv hqv h0 => ?_, fun v hv hqv => ?_⟩, ⟨fun u hu v hv => ?_, b.bm⟩⟩
  · rw [hq i hi, b.inn i hi]; simp [hi]
  · have hf : ((g.succ.getD v []).filter fun x => decide (x ∉ s.q.take 0)) = g.succ.getD v [] := List.filter_eq_self.2 (by simp)
    simp only [b.lf v hv, hf]; simp
  · simp only [b.lf v hv]
    have := hne v hv
    have : 0 < (g.succ.getD v []).length := List.length_pos_iff.2 this
    omega
  · simp only at hj ⊢
    rw [hatq i (by omega), hatq j hj]; exact Int.le_refl _
  · simp only at hj ha ⊢
    rw [hatq j hj, hatq 0 ha]; omega
  · simp only at hj ⊢
    rw [hatq j hj]; omega
  · simp only; rw [hq v hv, hat v hv]
    constructor
    · intro h; exact ⟨h, by rw [h]; rfl⟩
    · exact fun h => h.1
  · simp only at hqv h0
    rw [hat v hv, (hq v hv).1 hqv] at h0
    exact absurd rfl h0
  · simp only at hqv ⊢
    rw [hat v hv]
    have : t.getD v false = false := by
      cases h : t.getD v false
      · rfl
      · exact absurd ((hq v hv).2 h) hqv
    rw [this]; rfl
  · rw [b.bf u hu v, if_pos hv]
end

/-- The attractor by the queue, when it is done. -/
theorem attQ_inv (g : Gm) (p : Int) (t : List Bool) (hg : ∀ i, i < t.length → ∀ x ∈ g.succ.getD i [], 0 ≤ x ∧ x < t.length) (hne : ∀ i, i < t.length → g.succ.getD i [] ≠ []) (hS : ∀ i, (g.succ.getD i []).length ≤ 1000) :
    Inv g p t (attQ g p t).q.length [] (attQ g p t) ∧ ∃ N, AttOK t.length N (attQ g p t) := by
  have h0 := Inv.begin (p := p) hg hne hS
  have hok := begSt_ok g t t.length hS t.length (Nat.le_refl _)
  have hrow := begSt_row g t t.length hS t.length
  have hL : ∀ j, ((begSt g t t.length t.length).bf.getD j []).length ≤ 1000 * t.length ∧ ∀ v ∈ (begSt g t t.length t.length).bf.getD j [], 0 ≤ v ∧ v < t.length := fun j => ⟨hrow j, hok.2.2 j⟩
  have h1 := h0.1.iter hok.1 hg h0.2 hL t.length
  have h2 := attIter_ok hok.1 hL t.length (g := g) (p := p)
  have hqn := h2.qn
  rw [Nat.min_eq_right hqn] at h1
  exact ⟨h1, _, h2⟩

theorem rnIn_get (g : Gm) (p : Int) (s : List Bool) (i j : Nat) (hi : i ≤ s.length) : (rnIn g p s i).getD j false = (s.getD j false || (decide (j < i) && newB g p s j)) := by
  induction i with
  | zero => simp [rnIn]
  | succ i ih =>
    have hl : i < (rnIn g p s i).length := by rw [rnIn_len]; omega
    rw [rnIn]
    by_cases e : i = j
    · subst e
      cases hn : newB g p s i
      · simp only [Bool.false_eq_true, if_false]; rw [ih (by omega)]; simp
      · simp only [if_true]; rw [getD_set_eq _ _ _ _ hl]; simp
    · have h1 : ∀ b : Bool, (if b = true then (rnIn g p s i).set i true else rnIn g p s i).getD j false = (rnIn g p s i).getD j false := fun b => by
        cases b
        · rfl
        · simp only [if_true]; rw [getD_set_ne _ _ _ _ _ e]
      rw [h1, ih (by omega)]
      by_cases e2 : j < i
      · simp [e2, show j < i + 1 from by omega]
      · simp [e2, show ¬ j < i + 1 from by omega]

theorem rnMv_get (g : Gm) (p : Int) (s : List Bool) (n : Int) (m : List Int) (i j : Nat) (hi : i ≤ m.length) : (rnMv g p s n m i).getD j 0 = if j < i ∧ newB g p s j = true then n else m.getD j 0 := by
  induction i with
  | zero => simp [rnMv]
  | succ i ih =>
    have hl : i < (rnMv g p s n m i).length := by rw [rnMv_len]; omega
    rw [rnMv]
    by_cases e : i = j
    · subst e
      cases hn : newB g p s i
      · simp only [Bool.false_eq_true, if_false]; rw [ih (by omega)]; simp [hn]
      · simp only [if_true]; rw [getD_set_eq _ _ _ _ hl]; simp
    · have h1 : ∀ b : Bool, (if b = true then (rnMv g p s n m i).set i n else rnMv g p s n m i).getD j 0 = (rnMv g p s n m i).getD j 0 := fun b => by
        cases b
        · rfl
        · simp only [if_true]; rw [getD_set_ne _ _ _ _ _ e]
      rw [h1, ih (by omega)]
      by_cases e2 : j < i
      · simp [e2, show j < i + 1 from by omega]
      · simp [e2, show ¬ j < i + 1 from by omega]

/-- A state with the queue's invariant at its end. -/
theorem rounds_are {g : Gm} {p : Int} {t : List Bool} {st : Att} (h : Inv g p t st.q.length [] st) (hg : ∀ i, i < t.length → ∀ x ∈ g.succ.getD i [], 0 ≤ x ∧ x < t.length) (K : Nat) :
    ∀ i, i < t.length → ((rnd g p t K).1.getD i false = true ↔ (i : Int) ∈ st.q ∧ st.at i ≤ K) ∧ (rnd g p t K).2.getD i 0 = if (i : Int) ∈ st.q ∧ st.at i ≤ K then st.at i else -1 := by
  have hnn : ∀ x ∈ st.q, 0 ≤ st.at x := fun x hx => by
    obtain ⟨j, hj, e⟩ := mem_getD hx
    rw [← e]; exact (h.mj j hj).1
  induction K with
  | zero =>
    intro i hi
    have h1 : (rnd g p t 0).1.getD i false = true ↔ (i : Int) ∈ st.q ∧ st.at i ≤ (0 : Nat) := by
      show t.getD i false = true ↔ _
      rw [h.tg i hi]
      constructor
      · rintro ⟨a, b⟩; exact ⟨a, by omega⟩
      · rintro ⟨a, b⟩; have := hnn _ a; exact ⟨a, by omega⟩
    refine ⟨h1, ?_⟩
    have h2 : (rnd g p t 0).2.getD i 0 = if t.getD i false then 0 else -1 := by
      show (mv0 t).getD i 0 = _
      simp [mv0, List.getD, hi]
    rw [h2]
    by_cases hc : (i : Int) ∈ st.q ∧ st.at i ≤ (0 : Nat)
    · rw [if_pos hc]
      have : t.getD i false = true := h1.2 hc
      rw [this]; have := hnn _ hc.1; simp; omega
    · rw [if_neg hc]
      have : t.getD i false = false := by
        cases hb : t.getD i false
        · rfl
        · exact absurd (h1.1 hb) hc
      rw [this]; rfl
  | succ K ih =>
    have hl1 := (rnd_len g p t K).1
    have hl2 := (rnd_len g p t K).2
    have hmem : ∀ x : Int, 0 ≤ x → x < t.length → (atB (rnd g p t K).1 x = true ↔ x ∈ st.q ∧ st.at x ≤ K) := fun x h0 h1 => by
      have := (ih x.toNat (by omega)).1
      rw [Int.toNat_of_nonneg h0] at this
      exact this
    -- the positions that are new
    have hcan : ∀ i, i < t.length → (canB g p (rnd g p t K).1 i = true → (i : Int) ∈ st.q ∧ st.at i ≤ K + 1) ∧ ((i : Int) ∈ st.q → st.at i = K + 1 → canB g p (rnd g p t K).1 i = true) := fun i hi => by
      have hgi := hg i hi
      unfold canB
      by_cases ho : g.owner.getD i 0 = p
      · rw [if_pos ho]
        constructor
        · intro hc
          obtain ⟨x, hx, hxa⟩ := List.any_eq_true.1 hc
          obtain ⟨hxq, hxk⟩ := (hmem x (hgi x hx).1 (hgi x hx).2).1 hxa
          have hiq : (i : Int) ∈ st.q := by
            by_cases hiq : (i : Int) ∈ st.q
            · exact hiq
            · have := (h.ow i hi hiq ho).1 x hx
              rw [List.take_length] at this
              exact absurd hxq this
          refine ⟨hiq, ?_⟩
          by_cases h0 : st.at i = 0
          · omega
          · have := ((h.gd i hi hiq h0).1 ho).2 x hx hxq
            omega
        · intro hiq hik
          obtain ⟨⟨x, hx, hxq, hxe⟩, _⟩ := (h.gd i hi hiq (by omega)).1 ho
          exact List.any_eq_true.2 ⟨x, hx, (hmem x (hgi x hx).1 (hgi x hx).2).2 ⟨hxq, by omega⟩⟩
      · rw [if_neg ho]
        constructor
        · intro hc
          rw [List.all_eq_true] at hc
          have hall : ∀ x ∈ g.succ.getD i [], x ∈ st.q ∧ st.at x ≤ K := fun x hx => (hmem x (hgi x hx).1 (hgi x hx).2).1 (hc x hx)
          have hiq : (i : Int) ∈ st.q := by
            by_cases hiq : (i : Int) ∈ st.q
            · exact hiq
            · exfalso
              have h1 := h.ot i hi hiq ho
              rw [h.lf i hi] at h1
              apply h1
              have : (g.succ.getD i []).filter (fun x => decide (x ∉ st.q.take st.q.length)) = [] := by
                rw [List.filter_eq_nil_iff]
                intro x hx
                simp [(hall x hx).1]
              rw [this]; simp
          refine ⟨hiq, ?_⟩
          by_cases h0 : st.at i = 0
          · omega
          · obtain ⟨⟨x, hx, hxq, hxe⟩, _⟩ := (h.gd i hi hiq h0).2 ho
            have := (hall x hx).2
            omega
        · intro hiq hik
          rw [List.all_eq_true]
          intro x hx
          obtain ⟨hxq, hxe⟩ := ((h.gd i hi hiq (by omega)).2 ho).2 x hx
          exact (hmem x (hgi x hx).1 (hgi x hx).2).2 ⟨hxq, by omega⟩
    intro i hi
    have e1 : (rnd g p t (K + 1)).1.getD i false = ((rnd g p t K).1.getD i false || newB g p (rnd g p t K).1 i) := by
      rw [rnd]; simp only
      rw [rnIn_get _ _ _ _ _ (by omega)]; simp [hi]
    have e2 : (rnd g p t (K + 1)).2.getD i 0 = if newB g p (rnd g p t K).1 i = true then (K : Int) + 1 else (rnd g p t K).2.getD i 0 := by
      rw [rnd]; simp only
      rw [rnMv_get _ _ _ _ _ _ _ (by omega)]; simp [hi]
    obtain ⟨i1, i2⟩ := ih i hi
    obtain ⟨c1, c2⟩ := hcan i hi
    rw [e1, e2, i2]
    unfold newB
    cases hb : (rnd g p t K).1.getD i false
    · have hnk : ¬ ((i : Int) ∈ st.q ∧ st.at i ≤ K) := fun x => by rw [i1.2 x] at hb; cases hb
      rw [if_neg hnk]
      cases hc : canB g p (rnd g p t K).1 i
      · simp only [Bool.not_false, Bool.and_false, Bool.or_false, Bool.false_eq_true, if_false, false_iff]
        have hk1 : ¬ ((i : Int) ∈ st.q ∧ st.at i ≤ ((K + 1 : Nat) : Int)) := fun ⟨a, b⟩ => by
          by_cases e : st.at i = K + 1
          · rw [c2 a e] at hc; cases hc
          · exact hnk ⟨a, by omega⟩
        exact ⟨hk1, by rw [if_neg hk1]⟩
      · obtain ⟨a, b⟩ := c1 hc
        have e : st.at i = K + 1 := by
          have : ¬ st.at i ≤ K := fun x => hnk ⟨a, x⟩
          omega
        have hk1 : (i : Int) ∈ st.q ∧ st.at i ≤ ((K + 1 : Nat) : Int) := ⟨a, by omega⟩
        simp [hk1, e]
    · have hk := i1.1 hb
      have hk1 : (i : Int) ∈ st.q ∧ st.at i ≤ ((K + 1 : Nat) : Int) := ⟨hk.1, by omega⟩
      simp [hk]
      exact ⟨by omega, fun x => by omega⟩

/-- The queue's attractor is the reference's. -/
theorem attQ_eq (g : Gm) (p : Int) (t : List Bool) (hg : ∀ i, i < t.length → ∀ x ∈ g.succ.getD i [], 0 ≤ x ∧ x < t.length) (hne : ∀ i, i < t.length → g.succ.getD i [] ≠ []) (hS : ∀ i, (g.succ.getD i []).length ≤ 1000) :
    (attQ g p t).inn = (attrL g p t).1 ∧ (attQ g p t).mv = (attrL g p t).2 := by
  obtain ⟨h, N, hok⟩ := attQ_inv g p t hg hne hS
  have hr := rounds_are h hg t.length
  have hle : ∀ i : Nat, (i : Int) ∈ (attQ g p t).q → (attQ g p t).at i ≤ t.length := fun i hi => by
    obtain ⟨j, hj, e⟩ := mem_getD hi
    have := (h.mj j hj).2
    have := hok.qn
    rw [← e]; omega
  constructor
  · apply List.ext_getElem
    · rw [hok.li, attrL, (rnd_len g p t _).1]
    · intro i h1 h2
      have hi : i < t.length := by rw [← hok.li]; exact h1
      have a := h.iq i hi
      have b := (hr i hi).1
      rw [getD_lt _ _ _ h1] at a
      have h2' : i < (rnd g p t t.length).1.length := h2
      rw [getD_lt _ _ _ h2'] at b
      show _ = (rnd g p t t.length).1[i]
      rw [Bool.eq_iff_iff, a, b]
      exact ⟨fun x => ⟨x, hle i x⟩, fun x => x.1⟩
  · apply List.ext_getElem
    · rw [hok.lm, attrL, (rnd_len g p t _).2]
    · intro i h1 h2
      have hi : i < t.length := by rw [← hok.lm]; exact h1
      have b := (hr i hi).2
      have h2' : i < (rnd g p t t.length).2.length := h2
      rw [getD_lt _ _ _ h2'] at b
      show _ = (rnd g p t t.length).2[i]
      rw [b]
      have e : (attQ g p t).mv[i] = (attQ g p t).at i := by
        show _ = (attQ g p t).mv.getD (Int.toNat i) 0
        rw [Int.toNat_natCast, getD_lt _ _ _ h1]
      rw [e]
      by_cases hq : (i : Int) ∈ (attQ g p t).q
      · rw [if_pos ⟨hq, hle i hq⟩]
      · rw [if_neg (fun x => hq x.1), h.no i hi hq]

end Go.Proofs.Ytjhafakkadnfmaa
