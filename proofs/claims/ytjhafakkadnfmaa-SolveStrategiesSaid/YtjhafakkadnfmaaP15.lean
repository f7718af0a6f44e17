/- The queue of Attract, in plain lists: what a step does, and what stays true. -/
import Derived.Test.YtjhafakkadnfmaaC14
namespace Go.Proofs.Ytjhafakkadnfmaa

/-- The members, their numbers, the counters, the queue. -/
structure Att where
  inn : List Bool
  mv : List Int
  lf : List Int
  q : List Int

def attStep (g : Gm) (p : Int) (u : Int) (st : Att) (v : Int) : Att :=
  let lf := st.lf.set v.toNat (st.lf.getD v.toNat 0 - 1)
  if st.inn.getD v.toNat false = false ∧ (g.owner.getD v.toNat 0 = p ∨ lf.getD v.toNat 0 = 0) then ⟨st.inn.set v.toNat true, st.mv.set v.toNat (st.mv.getD u.toNat 0 + 1), lf, st.q ++ [v]⟩
  else ⟨st.inn, st.mv, lf, st.q⟩

def attAll (g : Gm) (p : Int) (u : Int) (st : Att) (l : List Int) : Att := l.foldl (attStep g p u) st

def attRound (g : Gm) (p : Int) (bf : List (List Int)) (st : Att) (k : Nat) : Att :=
  if k < st.q.length then attAll g p (st.q.getD k 0) st (bf.getD (st.q.getD k 0).toNat []) else st

def attIter (g : Gm) (p : Int) (bf : List (List Int)) (st : Att) : Nat → Att
  | 0 => st
  | k + 1 => attRound g p bf (attIter g p bf st k) k

/-- The attractor by the queue. -/
def attQ (g : Gm) (p : Int) (t : List Bool) : Att :=
  attIter g p (begSt g t t.length t.length).bf ⟨(begSt g t t.length t.length).inn, (begSt g t t.length t.length).mv, (begSt g t t.length t.length).lf, (begSt g t t.length t.length).q⟩ t.length

theorem attAll_snoc (g : Gm) (p u : Int) (st : Att) (l : List Int) (v : Int) : attAll g p u st (l ++ [v]) = attStep g p u (attAll g p u st l) v := by simp [attAll]

/-- What stays true of a state, N a bound on its numbers. -/
structure AttOK (n N : Nat) (st : Att) : Prop where
  li : st.inn.length = n
  lm : st.mv.length = n
  ll : st.lf.length = n
  qc : st.q.length = st.inn.count true
  qr : ∀ x ∈ st.q, 0 ≤ x ∧ x < n
  mr : ∀ i, -(N : Int) ≤ st.mv.getD i 0 ∧ st.mv.getD i 0 ≤ N
  lr : ∀ i, -(N : Int) ≤ st.lf.getD i 0 ∧ st.lf.getD i 0 ≤ N

theorem AttOK.qn {n N : Nat} {st : Att} (h : AttOK n N st) : st.q.length ≤ n := by
  rw [h.qc, ← h.li]; exact List.count_le_length

theorem AttOK.mono {n N M : Nat} {st : Att} (h : AttOK n N st) (hM : N ≤ M) : AttOK n M st :=
  { h with
    mr := fun i => by have := h.mr i; omega
    lr := fun i => by have := h.lr i; omega }

theorem getD_set_bd (l : List Int) (i j : Nat) (x : Int) (lo hi : Int) (h : ∀ i, lo ≤ l.getD i 0 ∧ l.getD i 0 ≤ hi) (hx : lo ≤ x ∧ x ≤ hi) : lo ≤ (l.set i x).getD j 0 ∧ (l.set i x).getD j 0 ≤ hi := by
  by_cases e : i = j
  · subst e
    by_cases hl : i < l.length
    · rw [getD_set_eq _ _ _ _ hl]; exact hx
    · have := h i
      simpa [List.getD, hl] using this
  · rw [getD_set_ne _ _ _ _ _ e]; exact h j

theorem count_set_true (l : List Bool) (i : Nat) (h : i < l.length) (hf : l[i] = false) : (l.set i true).count true = l.count true + 1 := by
  rw [List.count_set h]; simp [hf]

theorem attStep_ok {g : Gm} {p u v : Int} {n N : Nat} {st : Att} (h : AttOK n N st) (hv : 0 ≤ v ∧ v < n) : AttOK n (N + 1) (attStep g p u st v) := by
  have hvl : v.toNat < st.inn.length := by rw [h.li]; omega
  have h1 := h.lr v.toNat
  have h2 := h.mr u.toNat
  have hl := fun j => getD_set_bd st.lf v.toNat j (st.lf.getD v.toNat 0 - 1) (-((N + 1 : Nat) : Int)) ((N + 1 : Nat) : Int) (fun i => by have := h.lr i; omega) (by omega)
  have hm := fun j => getD_set_bd st.mv v.toNat j (st.mv.getD u.toNat 0 + 1) (-((N + 1 : Nat) : Int)) ((N + 1 : Nat) : Int) (fun i => by have := h.mr i; omega) (by omega)
  simp only [attStep]
  split
  · rename_i hc
    refine ⟨by simpa using h.li, by simpa using h.lm, by simpa using h.ll, ?_, ?_, hm, hl⟩
    · rw [count_set_true _ _ hvl (by have := hc.1; rwa [getD_lt _ _ _ hvl] at this), List.length_append, h.qc]; rfl
    · intro x hx
      rcases List.mem_append.1 hx with hx | hx
      · exact h.qr x hx
      · rw [List.mem_singleton.1 hx]; exact hv
  · exact ⟨h.li, h.lm, by simpa using h.ll, h.qc, h.qr, (h.mono (Nat.le_succ N)).mr, hl⟩

theorem attAll_ok {g : Gm} {p u : Int} {n N : Nat} {st : Att} (l : List Int) (h : AttOK n N st) (hl : ∀ v ∈ l, 0 ≤ v ∧ v < n) : AttOK n (N + l.length) (attAll g p u st l) := by
  induction l generalizing st N with
  | nil => exact h
  | cons a l ih =>
    have h1 := ih (N := N + 1) (attStep_ok (g := g) (p := p) (u := u) h (hl a List.mem_cons_self)) (fun v hv => hl v (List.mem_cons_of_mem _ hv))
    rw [List.length_cons, Nat.add_comm l.length 1, ← Nat.add_assoc]
    exact h1

theorem attRound_ok {g : Gm} {p : Int} {bf : List (List Int)} {n N L : Nat} {st : Att} {k : Nat} (h : AttOK n N st) (hb : ∀ j, (bf.getD j []).length ≤ L ∧ ∀ v ∈ bf.getD j [], 0 ≤ v ∧ v < n) : AttOK n (N + L) (attRound g p bf st k) := by
  unfold attRound
  split
  · exact (attAll_ok _ h (hb _).2).mono (by have := (hb (st.q.getD k 0).toNat).1; omega)
  · exact h.mono (by omega)

theorem attIter_ok {g : Gm} {p : Int} {bf : List (List Int)} {n N L : Nat} {st : Att} (h : AttOK n N st) (hb : ∀ j, (bf.getD j []).length ≤ L ∧ ∀ v ∈ bf.getD j [], 0 ≤ v ∧ v < n) (k : Nat) : AttOK n (N + k * L) (attIter g p bf st k) := by
  induction k with
  | zero => simpa [attIter] using h
  | succ k ih =>
    have := attRound_ok (g := g) (p := p) (k := k) ih hb
    rw [attIter]
    exact this.mono (by rw [Nat.add_mul]; omega)

/-- Behind the end of the queue nothing changes. -/
theorem attIter_stop {g : Gm} {p : Int} {bf : List (List Int)} {st : Att} {k : Nat} (h : (attIter g p bf st k).q.length ≤ k) (m : Nat) : attIter g p bf st (k + m) = attIter g p bf st k := by
  induction m with
  | zero => rfl
  | succ m ih => rw [← Nat.add_assoc, attIter, ih, attRound, if_neg (by omega)]

theorem pushAll_mem {bf : List (List Int)} {v : Int} {l : List Int} {j : Nat} {x : Int} (h : x ∈ (pushAll bf v l).getD j []) : x ∈ bf.getD j [] ∨ x = v := by
  induction l generalizing bf with
  | nil => exact .inl h
  | cons a l ih =>
    rw [pushAll] at h
    rcases ih h with h | h
    · by_cases e : a.toNat = j
      · subst e
        by_cases hl : a.toNat < bf.length
        · rw [getD_set_eq _ _ _ _ hl] at h
          rcases List.mem_append.1 h with h | h
          · exact .inl h
          · exact .inr (List.mem_singleton.1 h)
        · simp [List.getD, hl] at h
      · rw [getD_set_ne _ _ _ _ _ e] at h; exact .inl h
    · exact .inr h

theorem begSt_ok (g : Gm) (t : List Bool) (n : Nat) (hS : ∀ i, (g.succ.getD i []).length ≤ 1000) (k : Nat) (hk : k ≤ n) :
    AttOK n 1000 ⟨(begSt g t n k).inn, (begSt g t n k).mv, (begSt g t n k).lf, (begSt g t n k).q⟩ ∧ (∀ j, k ≤ j → (begSt g t n k).inn.getD j false = false) ∧ ∀ j, ∀ v ∈ (begSt g t n k).bf.getD j [], 0 ≤ v ∧ v < n := by
  induction k with
  | zero =>
    have hz : ∀ i, -((1000 : Nat) : Int) ≤ (List.replicate n (0 : Int)).getD i 0 ∧ (List.replicate n (0 : Int)).getD i 0 ≤ ((1000 : Nat) : Int) := fun i => by
      simp only [List.getD, List.getElem?_replicate]; split <;> simp
    refine ⟨⟨by simp [begSt], by simp [begSt], by simp [begSt], by simp [begSt, List.count_replicate], by simp [begSt], hz, hz⟩, ?_, ?_⟩
    · intro j _
      simp only [begSt, List.getD, List.getElem?_replicate]; split <;> rfl
    · intro j v hv
      simp only [begSt, List.getD, List.getElem?_replicate] at hv
      split at hv <;> simp at hv
  | succ k ih =>
    obtain ⟨h1, h2, h3⟩ := ih (by omega)
    have hS := hS k
    have hl := fun j => getD_set_bd (begSt g t n k).lf k j ((g.succ.getD k []).length : Int) (-((1000 : Nat) : Int)) ((1000 : Nat) : Int) h1.lr (by omega)
    have hm := fun j => getD_set_bd (begSt g t n k).mv k j (-1) (-((1000 : Nat) : Int)) ((1000 : Nat) : Int) h1.mr (by omega)
    have hm2 := fun j => getD_set_bd ((begSt g t n k).mv.set k (-1)) k j 0 (-((1000 : Nat) : Int)) ((1000 : Nat) : Int) hm (by omega)
    have hb : ∀ j, ∀ v ∈ (pushAll (begSt g t n k).bf k (g.succ.getD k [])).getD j [], 0 ≤ v ∧ v < n := fun j v hv => by
      rcases pushAll_mem hv with h | h
      · exact h3 j v h
      · subst h; omega
    have hki : k < (begSt g t n k).inn.length := by have := h1.li; simp only at this; omega
    simp only [begSt]
    split
    · refine ⟨⟨by simpa using h1.li, by simpa using h1.lm, by simpa using h1.ll, ?_, ?_, hm2, hl⟩, ?_, hb⟩
      · simp only
        rw [count_set_true _ _ hki (by have := h2 k (Nat.le_refl _); rwa [getD_lt _ _ _ hki] at this), List.length_append]
        have := h1.qc
        simp only at this
        rw [this]; rfl
      · intro x hx
        rcases List.mem_append.1 hx with hx | hx
        · exact h1.qr x hx
        · rw [List.mem_singleton.1 hx]; omega
      · intro j hj
        simp only
        rw [getD_set_ne _ _ _ _ _ (by omega)]
        exact h2 j (by omega)
    · exact ⟨⟨h1.li, by simpa using h1.lm, by simpa using h1.ll, h1.qc, h1.qr, hm, hl⟩, fun j hj => h2 j (by omega), hb⟩

end Go.Proofs.Ytjhafakkadnfmaa
