/- Taking out what is attracted, by a queue and by counts of the successors that are left. -/
import Derived.Test.YtjhafakkadnfmaaSo2
namespace Go.Proofs.Ytjhafakkadnfmaa

/-- The queue, what is alive, and how many successors of each position are left. -/
structure Wk where
  q : List Int
  al : List Bool
  lf : List Int

def inS (s : List Bool) (x : Int) : Bool := s.getD x.toNat false
def wkStep (g : Gm) (p : Int) (st : Wk) (v : Int) : Wk :=
  if inS st.al v && (decide (g.owner.getD v.toNat 0 = p) || decide (st.lf.getD v.toNat 0 - 1 = 0)) then ⟨st.q ++ [v], st.al.set v.toNat false, st.lf.set v.toNat (st.lf.getD v.toNat 0 - 1)⟩ else ⟨st.q, st.al, st.lf.set v.toNat (st.lf.getD v.toNat 0 - 1)⟩
def wkAll (g : Gm) (p : Int) (st : Wk) (l : List Int) : Wk := l.foldl (wkStep g p) st
theorem wkStep_nat (g : Gm) (p : Int) (st : Wk) (v : Nat) : wkStep g p st (v : Int) = if (st.al.getD v false && (decide (g.owner.getD v 0 = p) || decide (st.lf.getD v 0 - 1 = 0))) = true then ⟨st.q ++ [(v : Int)], st.al.set v false, st.lf.set v (st.lf.getD v 0 - 1)⟩ else ⟨st.q, st.al, st.lf.set v (st.lf.getD v 0 - 1)⟩ := rfl
theorem wkAll_snoc (g : Gm) (p : Int) (st : Wk) (l : List Int) (v : Int) : wkAll g p st (l ++ [v]) = wkStep g p (wkAll g p st l) v := by simp [wkAll]

/-- The positions of which a position is a successor, with repetitions. -/
structure BfOK (g : Gm) (n : Nat) (bf : List (List Int)) : Prop where
  rg : ∀ u, ∀ x ∈ bf.getD u [], ∃ v : Nat, x = v ∧ v < n
  ct : ∀ u v, u < n → v < n → (bf.getD u []).count (v : Int) = (g.succ.getD v []).count (u : Int)

theorem mem_get {l : List Int} {x : Int} (h : x ∈ l) : ∃ j, j < l.length ∧ l.getD j 0 = x := by
  obtain ⟨j, hj, e⟩ := List.getElem_of_mem h
  exact ⟨j, hj, by rw [getD_lt _ _ _ hj]; exact e⟩
theorem get_mem {l : List Int} {j : Nat} (h : j < l.length) : l.getD j 0 ∈ l := by rw [getD_lt _ _ _ h]; exact List.getElem_mem h
theorem take_get {l : List Int} {a : Nat} {x : Int} (h : x ∈ l.take a) : ∃ j, j < a ∧ j < l.length ∧ l.getD j 0 = x := by
  obtain ⟨j, hj, e⟩ := mem_get h
  rw [List.length_take] at hj
  refine ⟨j, by omega, by omega, ?_⟩
  rw [← e]; simp [List.getD, show j < a by omega]
theorem get_take {l : List Int} {a j : Nat} (h : j < a) (hj : j < l.length) : l.getD j 0 ∈ l.take a := by
  have : (l.take a).getD j 0 = l.getD j 0 := by simp [List.getD, h]
  rw [← this]; exact get_mem (by rw [List.length_take]; omega)
theorem nodup_get {l : List Int} (h : l.Nodup) {i j : Nat} (hi : i < l.length) (hj : j < l.length) (e : l.getD i 0 = l.getD j 0) : i = j := by
  rw [getD_lt _ _ _ hi, getD_lt _ _ _ hj] at e
  have hp := List.pairwise_iff_getElem.1 h
  rcases Nat.lt_trichotomy i j with hlt | heq | hgt
  · exact absurd e (hp i j hi hj hlt)
  · exact heq
  · exact absurd e.symm (hp j i hj hi hgt)
theorem count_snoc (r : List Int) (v x : Int) : (r ++ [v]).count x = r.count x + if v = x then 1 else 0 := by
  rw [List.count_append]
  by_cases h : v = x
  · subst h; simp
  · simp [h]

theorem countTwo {P : Int → Bool} {u x : Int} (hux : x ≠ u) (hu : P u = true) (hx : P x = true) (l : List Int) : l.count u + l.count x ≤ l.countP P := by
  induction l with
  | nil => simp
  | cons y l ih =>
    rw [List.count_cons, List.count_cons, List.countP_cons]
    by_cases h1 : y = u
    · subst h1
      have h2 : (y == x) = false := by simpa using fun e => hux e.symm
      simp only [h2, BEq.rfl, if_true, hu]
      simp; omega
    · by_cases h2 : y = x
      · subst h2
        have h3 : (y == u) = false := by simpa using h1
        simp only [h3, BEq.rfl, if_true, hx]
        simp; omega
      · have h3 : (y == u) = false := by simpa using h1
        have h4 : (y == x) = false := by simpa using h2
        simp only [h3, h4]
        simp; omega
theorem countOne {P : Int → Bool} {u : Int} (hu : P u = true) (l : List Int) : l.count u ≤ l.countP P := by
  rw [List.count]
  exact List.countP_mono_left fun x _ hx => by rw [beq_iff_eq] at hx; subst hx; exact hu
theorem countSplit {f : Int → Bool} (l P : List Int) (u : Int) (hf : f u = true) (hu : u ∉ P) : l.countP (fun x => f x && decide (x ∉ P)) = l.countP (fun x => f x && decide (x ∉ P ++ [u])) + l.count u := by
  induction l with
  | nil => simp
  | cons y l ih =>
    rw [List.countP_cons, List.countP_cons, List.count_cons, ih]
    by_cases h : y = u
    · subst h
      simp [hf, hu]; omega
    · simp [h]; omega

section
variable (g : Gm) (p : Int) (n : Nat) (s : List Bool) (t : List Int)

/-- Ahead of the place a the queue is done; r of the row at the place a is done. -/
structure WInv (a : Nat) (r : List Int) (st : Wk) : Prop where
  la : st.al.length = n
  ll : st.lf.length = n
  qr : ∀ x ∈ st.q, ∃ v : Nat, x = v ∧ v < n ∧ s.getD v false = true
  nd : st.q.Nodup
  al : ∀ v : Nat, v < n → st.al.getD v false = (s.getD v false && decide ((v : Int) ∉ st.q))
  lf : ∀ v : Nat, v < n → st.lf.getD v 0 + (r.count (v : Int) : Nat) = ((g.succ.getD v []).countP (fun x => inS s x && decide (x ∉ st.q.take a)) : Nat)
  tq : ∀ x ∈ t, x ∈ st.q
  rk : ∀ j, j < st.q.length → st.q.getD j 0 ∉ t → ((g.owner.getD (st.q.getD j 0).toNat 0 = p → ∃ i, i < j ∧ st.q.getD i 0 ∈ g.succ.getD (st.q.getD j 0).toNat []) ∧ (g.owner.getD (st.q.getD j 0).toNat 0 ≠ p → ∀ x ∈ g.succ.getD (st.q.getD j 0).toNat [], inS s x = true → ∃ i, i < j ∧ st.q.getD i 0 = x))
  mi : ∀ v : Nat, v < n → s.getD v false = true → (v : Int) ∉ st.q → g.owner.getD v 0 = p → (∀ x ∈ g.succ.getD v [], x ∉ st.q.take a) ∧ r.count (v : Int) = 0
  ot : ∀ v : Nat, v < n → s.getD v false = true → (v : Int) ∉ st.q → g.owner.getD v 0 ≠ p → 0 < st.lf.getD v 0

variable {g p n s t}

theorem getD_setI (l : List Int) (i j : Nat) (x : Int) (h : i < l.length) : (l.set i x).getD j 0 = if i = j then x else l.getD j 0 := by
  simp only [List.getD, List.getElem?_set]
  split <;> simp [*]
theorem getD_setB (l : List Bool) (i j : Nat) (x : Bool) (h : i < l.length) : (l.set i x).getD j false = if i = j then x else l.getD j false := by
  simp only [List.getD, List.getElem?_set]
  split <;> simp [*]

/-- One position of a row. -/
theorem WInv.step {a : Nat} {r : List Int} {st : Wk} {u v : Nat} (h : WInv g p n s t a r st) (ha : a < st.q.length) (hu : st.q.getD a 0 = u) (hv : v < n) (hc : (r ++ [(v : Int)]).count (v : Int) ≤ (g.succ.getD v []).count (u : Int)) :
    WInv g p n s t a (r ++ [(v : Int)]) (wkStep g p st v) := by
  have huq : (u : Int) ∈ st.q := by rw [← hu]; exact get_mem ha
  obtain ⟨u', e, hun, hus⟩ := h.qr _ huq
  obtain rfl : u = u' := by omega
  have hut : (u : Int) ∉ st.q.take a := fun hm => by
    obtain ⟨j, j1, j2, e⟩ := take_get hm
    have := nodup_get h.nd j2 ha (by rw [e, hu])
    omega
  have hPu : (inS s (u : Int) && decide ((u : Int) ∉ st.q.take a)) = true := by rw [show inS s (u : Int) = true from hus]; simp [hut]
  have hle := countOne (P := fun x => inS s x && decide (x ∉ st.q.take a)) hPu (g.succ.getD v [])
  have hlv := h.lf v hv
  have hcs : (r ++ [(v : Int)]).count (v : Int) = r.count (v : Int) + 1 := by rw [count_snoc]; simp
  have hpos : 0 ≤ st.lf.getD v 0 - 1 := by omega
  have husv : (u : Int) ∈ g.succ.getD v [] := by
    rw [← List.count_pos_iff]; omega
  have hlfn : ∀ w : Nat, w < n → (st.lf.set v (st.lf.getD v 0 - 1)).getD w 0 + (((r ++ [(v : Int)]).count (w : Int) : Nat) : Int) = ((g.succ.getD w []).countP (fun x => inS s x && decide (x ∉ st.q.take a)) : Nat) := fun w hw => by
    rw [getD_setI _ _ _ _ (by rw [h.ll]; exact hv), count_snoc]
    have := h.lf w hw
    by_cases e : v = w
    · subst e; simp only [if_true]; omega
    · rw [if_neg e, if_neg (by omega)]; omega
  rw [wkStep_nat]
  by_cases hcond : (st.al.getD v false && (decide (g.owner.getD v 0 = p) || decide (st.lf.getD v 0 - 1 = 0))) = true
  · rw [if_pos hcond]
    simp only [Bool.and_eq_true, Bool.or_eq_true, decide_eq_true_eq] at hcond
    obtain ⟨hal, hor⟩ := hcond
    rw [h.al v hv] at hal
    simp only [Bool.and_eq_true, decide_eq_true_eq] at hal
    obtain ⟨hsv, hvq⟩ := hal
    have htk : (st.q ++ [(v : Int)]).take a = st.q.take a := List.take_append_of_le_length (by omega)
    refine ⟨by simp [h.la], by simp [h.ll], fun x hx => ?_, ?_, fun w hw => ?_, fun w hw => ?_, fun x hx => List.mem_append.2 (.inl (h.tq x hx)), fun j hj hjt => ?_, fun w hw hws hwq ho => ?_, fun w hw hws hwq ho => ?_⟩
    · rcases List.mem_append.1 hx with hx | hx
      · exact h.qr x hx
      · obtain rfl := List.mem_singleton.1 hx
        exact ⟨v, rfl, hv, hsv⟩
    · rw [List.nodup_append]
      refine ⟨h.nd, by simp, fun x hx y hy => ?_⟩
      obtain rfl := List.mem_singleton.1 hy
      intro e; exact hvq (e ▸ hx)
    · rw [getD_setB _ _ _ _ (by rw [h.la]; exact hv), h.al w hw]
      by_cases e : v = w
      · subst e; simp
      · rw [if_neg e]
        have : (w : Int) ≠ v := by omega
        simp [this]
    · simp only [htk]; exact hlfn w hw
    · simp only at hj hjt ⊢
      rw [List.length_append, List.length_singleton] at hj
      have hold : ∀ i, i < st.q.length → (st.q ++ [(v : Int)]).getD i 0 = st.q.getD i 0 := fun i hi => by simp [List.getD, List.getElem?_append_left hi]
      by_cases hjl : j < st.q.length
      · rw [hold j hjl] at hjt ⊢
        obtain ⟨k1, k2⟩ := h.rk j hjl hjt
        refine ⟨fun ho => ?_, fun ho x hx hs => ?_⟩
        · obtain ⟨i, hi, e⟩ := k1 ho
          exact ⟨i, hi, by rw [hold i (by omega)]; exact e⟩
        · obtain ⟨i, hi, e⟩ := k2 ho x hx hs
          exact ⟨i, hi, by rw [hold i (by omega)]; exact e⟩
      · obtain rfl : j = st.q.length := by omega
        have e : (st.q ++ [(v : Int)]).getD st.q.length 0 = (v : Int) := by simp [List.getD]
        rw [e, Int.toNat_natCast]
        refine ⟨fun ho => ⟨a, ha, by rw [hold a ha, hu]; exact husv⟩, fun ho x hx hs => ?_⟩
        by_cases hxu : x = u
        · exact ⟨a, ha, by rw [hold a ha, hu, hxu]⟩
        · by_cases hxt : x ∈ st.q.take a
          · obtain ⟨i, i1, i2, e⟩ := take_get hxt
            exact ⟨i, i2, by rw [hold i i2]; exact e⟩
          · have hz : st.lf.getD v 0 - 1 = 0 := hor.resolve_left ho
            have hPx : (inS s x && decide (x ∉ st.q.take a)) = true := by rw [hs]; simp [hxt]
            have := countTwo (P := fun x => inS s x && decide (x ∉ st.q.take a)) hxu hPu hPx (g.succ.getD v [])
            have : 0 < (g.succ.getD v []).count x := List.count_pos_iff.2 hx
            omega
    · simp only [htk] at hwq ⊢
      have hwv : v ≠ w := fun e => hwq (by simp [e])
      have hwq' : (w : Int) ∉ st.q := fun e => hwq (List.mem_append.2 (.inl e))
      obtain ⟨k1, k2⟩ := h.mi w hw hws hwq' ho
      refine ⟨k1, ?_⟩
      rw [count_snoc, k2, if_neg (by omega)]
    · have hwv : v ≠ w := fun e => hwq (by simp [e])
      have hwq' : (w : Int) ∉ st.q := fun e => hwq (List.mem_append.2 (.inl e))
      simp only
      rw [getD_setI _ _ _ _ (by rw [h.ll]; exact hv), if_neg hwv]
      exact h.ot w hw hws hwq' ho
  · rw [if_neg hcond]
    refine ⟨h.la, by simp [h.ll], h.qr, h.nd, h.al, hlfn, h.tq, h.rk, fun w hw hws hwq ho => ?_, fun w hw hws hwq ho => ?_⟩
    · obtain ⟨k1, k2⟩ := h.mi w hw hws hwq ho
      refine ⟨k1, ?_⟩
      have hwv : v ≠ w := fun e => by
        subst e
        refine hcond ?_
        have := h.al v hv
        rw [hws] at this
        rw [this]; simp only [ho]; simp [hwq]
      rw [count_snoc, k2, if_neg (by omega)]
    · simp only
      rw [getD_setI _ _ _ _ (by rw [h.ll]; exact hv)]
      by_cases e : v = w
      · subst e
        rw [if_pos rfl]
        have hne : st.lf.getD v 0 - 1 ≠ 0 := fun e => by
          refine hcond ?_
          have := h.al v hv
          rw [hws] at this
          rw [this, e]; simp [hwq]
        omega
      · rw [if_neg e]; exact h.ot w hw hws hwq ho

theorem wkStep_q (g : Gm) (p : Int) (st : Wk) (v : Int) : ∃ e, (wkStep g p st v).q = st.q ++ e := by
  unfold wkStep
  split
  · exact ⟨[v], rfl⟩
  · exact ⟨[], by simp⟩

/-- A row. -/
theorem WInv.all {a : Nat} {st : Wk} {u : Nat} {row : List Int} (h : WInv g p n s t a [] st) (ha : a < st.q.length) (hu : st.q.getD a 0 = u) (hr : ∀ x ∈ row, ∃ v : Nat, x = v ∧ v < n) (hc : ∀ v : Nat, v < n → row.count (v : Int) = (g.succ.getD v []).count (u : Int)) (k : Nat) (hk : k ≤ row.length) :
    WInv g p n s t a (row.take k) (wkAll g p st (row.take k)) ∧ ∃ e, (wkAll g p st (row.take k)).q = st.q ++ e := by
  induction k with
  | zero => exact ⟨h, [], by simp [wkAll]⟩
  | succ k ih =>
    obtain ⟨i1, e, i2⟩ := ih (by omega)
    rw [List.take_succ_eq_append_getElem (by omega)]
    obtain ⟨v, hv, hvn⟩ := hr row[k] (List.getElem_mem _)
    have hcv := hc v hvn
    have hle : (row.take k ++ [row[k]]).count (v : Int) ≤ row.count (v : Int) := by
      rw [← List.take_succ_eq_append_getElem (by omega)]
      exact List.Sublist.count_le _ (List.take_sublist _ _)
    rw [hv] at hle ⊢
    rw [wkAll_snoc]
    have ha' : a < (wkAll g p st (row.take k)).q.length := by rw [i2, List.length_append]; omega
    have hu' : (wkAll g p st (row.take k)).q.getD a 0 = u := by rw [i2, ← hu]; simp [List.getD, List.getElem?_append_left ha]
    refine ⟨i1.step ha' hu' hvn (by omega), ?_⟩
    obtain ⟨e2, h2⟩ := wkStep_q g p (wkAll g p st (row.take k)) v
    exact ⟨e ++ e2, by rw [h2, i2, List.append_assoc]⟩

theorem WInv.next {a : Nat} {st : Wk} {u : Nat} {row : List Int} (h : WInv g p n s t a row st) (ha : a < st.q.length) (hu : st.q.getD a 0 = u) (hc : ∀ v : Nat, v < n → row.count (v : Int) = (g.succ.getD v []).count (u : Int)) : WInv g p n s t (a + 1) [] st := by
  have huq : (u : Int) ∈ st.q := by rw [← hu]; exact get_mem ha
  obtain ⟨u', e, hun, hus⟩ := h.qr _ huq
  obtain rfl : u = u' := by omega
  have hut : (u : Int) ∉ st.q.take a := fun hm => by
    obtain ⟨j, j1, j2, e⟩ := take_get hm
    have := nodup_get h.nd j2 ha (by rw [e, hu])
    omega
  have htk : st.q.take (a + 1) = st.q.take a ++ [(u : Int)] := by
    rw [List.take_succ_eq_append_getElem ha, ← hu, getD_lt _ _ _ ha]
  refine ⟨h.la, h.ll, h.qr, h.nd, h.al, fun v hv => ?_, h.tq, h.rk, fun v hv hs hq ho => ?_, h.ot⟩
  · have h1 := h.lf v hv
    rw [countSplit (f := inS s) _ _ (u : Int) hus hut, hc v hv] at h1
    rw [htk]
    simp only [List.count_nil]
    omega
  · obtain ⟨k1, k2⟩ := h.mi v hv hs hq ho
    refine ⟨fun x hx => ?_, by simp⟩
    rw [htk]
    intro hm
    rcases List.mem_append.1 hm with hm | hm
    · exact k1 x hx hm
    · obtain rfl := List.mem_singleton.1 hm
      rw [hc v hv] at k2
      have := List.count_pos_iff.2 hx
      omega

/-- The beginning. -/
theorem WInv.start {al : List Bool} {lf : List Int} (hla : al.length = n) (hll : lf.length = n) (hs : ∀ v, v < n → al.getD v false = (s.getD v false && decide ((v : Int) ∉ t))) (ht : ∀ x ∈ t, ∃ v : Nat, x = v ∧ v < n ∧ s.getD v false = true) (hnd : t.Nodup)
    (hl : ∀ v, v < n → lf.getD v 0 = ((g.succ.getD v []).countP (inS s) : Nat)) (htot : ∀ v, v < n → s.getD v false = true → ∃ x ∈ g.succ.getD v [], inS s x = true) : WInv g p n s t 0 [] ⟨t, al, lf⟩ := by
  refine ⟨hla, hll, ht, hnd, hs, fun v hv => ?_, fun x hx => hx, fun j hj hjt => absurd (get_mem hj) hjt, fun v hv _ _ _ => ⟨fun x hx => by simp, by simp⟩, fun v hv hsv hq ho => ?_⟩
  · have e : (fun x => inS s x && decide (x ∉ t.take 0)) = inS s := by funext x; simp
    simp only
    rw [e, hl v hv]; simp
  · simp only
    rw [hl v hv]
    obtain ⟨x, hx, h⟩ := htot v hv hsv
    have : 0 < (g.succ.getD v []).countP (inS s) := List.countP_pos_iff.2 ⟨x, hx, h⟩
    omega

open Classical in
/-- The end. -/
theorem WInv.att {a : Nat} {st : Wk} (h : WInv g p n s t a [] st) (ha : st.q.length ≤ a) (hg : ∀ i, i < n → ∀ x ∈ g.succ.getD i [], ∃ v : Nat, x = v ∧ v < n) (hsn : s.length = n) :
    AttIn g p (fun i => s.getD i false = true) (fun i => (i : Int) ∈ t) (fun i => (i : Int) ∈ st.q) := by
  have hlt : ∀ i, s.getD i false = true → i < n := fun i hi => by
    rcases Nat.lt_or_ge i n with h | h
    · exact h
    · simp [List.getD, List.getElem?_eq_none (by omega : s.length ≤ i)] at hi
  have hq : ∀ i : Nat, (i : Int) ∈ st.q → i < n ∧ s.getD i false = true := fun i hi => by
    obtain ⟨v, e, h1, h2⟩ := h.qr _ hi
    obtain rfl : i = v := by omega
    exact ⟨h1, h2⟩
  have htk : st.q.take a = st.q := List.take_of_length_le ha
  obtain ⟨ρ, rho⟩ : ∃ ρ : Nat → Nat, ∀ j, j < st.q.length → ∀ i : Nat, st.q.getD j 0 = (i : Int) → ρ i = j := by
    refine ⟨fun i => if hx : ∃ j, j < st.q.length ∧ st.q.getD j 0 = (i : Int) then Classical.choose hx else 0, fun j hj i e => ?_⟩
    have hx : ∃ j, j < st.q.length ∧ st.q.getD j 0 = (i : Int) := ⟨j, hj, e⟩
    simp only
    rw [dif_pos hx]
    obtain ⟨h1, h2⟩ := Classical.choose_spec hx
    exact nodup_get h.nd h1 hj (by rw [h2, e])
  refine ⟨fun i hi => (hq i hi).2, fun i hi => h.tq _ hi, ⟨ρ, fun i hi hit => ?_⟩, fun i hi hn ho j he => ?_, fun i hi hn ho => ?_⟩
  · obtain ⟨j, hj, e⟩ := mem_get hi
    obtain ⟨k1, k2⟩ := h.rk j hj (by rw [e]; exact hit)
    rw [e, Int.toNat_natCast] at k1 k2
    refine ⟨fun ho => ?_, fun ho x he hx => ?_⟩
    · obtain ⟨m, hm, hme⟩ := k1 ho
      obtain ⟨v, ev, hv⟩ := hg i (hq i hi).1 _ hme
      refine ⟨v, by unfold Edge; rw [← ev]; exact hme, by rw [← ev]; exact get_mem (by omega), .inr ?_⟩
      rw [rho j hj i e, rho m (by omega) v ev]
      exact hm
    · obtain ⟨m, hm, hme⟩ := k2 ho x he hx
      refine ⟨by rw [← hme]; exact get_mem (by omega), .inr ?_⟩
      rw [rho j hj i e, rho m (by omega) x hme]
      exact hm
  · have := (h.mi i (hlt i hi) hi hn ho).1 j he
    rwa [htk] at this
  · have h1 := h.ot i (hlt i hi) hi hn ho
    have h2 := h.lf i (hlt i hi)
    simp only [List.count_nil, htk] at h2
    have : 0 < (g.succ.getD i []).countP (fun x => inS s x && decide (x ∉ st.q)) := by omega
    obtain ⟨x, hx, hp⟩ := List.countP_pos_iff.1 this
    simp only [Bool.and_eq_true, decide_eq_true_eq] at hp
    obtain ⟨v, e, hv⟩ := hg i (hlt i hi) x hx
    subst e
    exact ⟨v, hx, hp.1, hp.2⟩

end
end Go.Proofs.Ytjhafakkadnfmaa
