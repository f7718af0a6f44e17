/- The queue keeps its invariant: members, numbers and counters are right at every step. -/
import Derived.Test.YtjhafakkadnfmaaP17
namespace Go.Proofs.Ytjhafakkadnfmaa

section
variable (g : Gm) (p : Int) (t : List Bool)

/-- The number of a position. -/
def Att.at (st : Att) (x : Int) : Int := st.mv.getD x.toNat 0

/-- Why a member v that is no target has its number. -/
def Good (st : Att) (v : Nat) : Prop :=
  (g.owner.getD v 0 = p → (∃ x ∈ g.succ.getD v [], x ∈ st.q ∧ st.at x + 1 = st.at v) ∧ ∀ x ∈ g.succ.getD v [], x ∈ st.q → st.at v ≤ st.at x + 1) ∧
  (g.owner.getD v 0 ≠ p → (∃ x ∈ g.succ.getD v [], x ∈ st.q ∧ st.at x + 1 = st.at v) ∧ ∀ x ∈ g.succ.getD v [], x ∈ st.q ∧ st.at x + 1 ≤ st.at v)

/-- The state when the first a members of the queue are done, and of the positions before the next one those in r. -/
structure Inv (a : Nat) (r : List Int) (st : Att) : Prop where
  nd : st.q.Nodup
  iq : ∀ i, i < t.length → (st.inn.getD i false = true ↔ (i : Int) ∈ st.q)
  lf : ∀ v, v < t.length → st.lf.getD v 0 = (((g.succ.getD v []).filter (fun x => decide (x ∉ st.q.take a))).length : Int) - (r.count (v : Int) : Int)
  ow : ∀ v, v < t.length → (v : Int) ∉ st.q → g.owner.getD v 0 = p → (∀ x ∈ g.succ.getD v [], x ∉ st.q.take a) ∧ (v : Int) ∉ r
  ot : ∀ v, v < t.length → (v : Int) ∉ st.q → g.owner.getD v 0 ≠ p → st.lf.getD v 0 ≠ 0
  mo : ∀ i j, i ≤ j → j < st.q.length → st.at (st.q.getD i 0) ≤ st.at (st.q.getD j 0)
  m1 : ∀ j, j < st.q.length → a < st.q.length → st.at (st.q.getD j 0) ≤ st.at (st.q.getD a 0) + 1
  mj : ∀ j, j < st.q.length → 0 ≤ st.at (st.q.getD j 0) ∧ st.at (st.q.getD j 0) ≤ j
  tg : ∀ v, v < t.length → (t.getD v false = true ↔ (v : Int) ∈ st.q ∧ st.at v = 0)
  gd : ∀ v, v < t.length → (v : Int) ∈ st.q → st.at v ≠ 0 → Good g p st v
  no : ∀ v, v < t.length → (v : Int) ∉ st.q → st.at v = -1
end

theorem mem_getD {l : List Int} {x : Int} (h : x ∈ l) : ∃ j, j < l.length ∧ l.getD j 0 = x := by
  obtain ⟨j, hj, e⟩ := List.getElem_of_mem h
  exact ⟨j, hj, by rw [getD_lt _ _ _ hj, e]⟩

theorem getD_mem {l : List Int} {j : Nat} (h : j < l.length) : l.getD j 0 ∈ l := by rw [getD_lt _ _ _ h]; exact List.getElem_mem h

theorem count_two {P : Int → Bool} {u x : Int} (hux : x ≠ u) (hu : P u = true) (hx : P x = true) (l : List Int) : l.count u + l.count x ≤ l.countP P := by
  induction l with
  | nil => simp
  | cons y l ih =>
    rw [List.count_cons, List.count_cons, List.countP_cons]
    by_cases e1 : y = u
    · subst e1
      have h : (y == x) = false := by simpa using Ne.symm hux
      rw [h, hu]; simp; omega
    · by_cases e2 : y = x
      · subst e2
        have h : (y == u) = false := by simpa using e1
        rw [h, hx]; simp; omega
      · have h : (y == u) = false := by simpa using e1
        have h' : (y == x) = false := by simpa using e2
        rw [h, h']
        cases P y <;> simp <;> omega

/-- One step of a round. -/
theorem Inv.step {g : Gm} {p : Int} {t : List Bool} {a : Nat} {r : List Int} {st : Att} {u : Int} {v : Nat} {N : Nat} (h : Inv g p t a r st) (hok : AttOK t.length N st) (ha : a < st.q.length) (hu : st.q.getD a 0 = u)
    (hv : v < t.length) (hsu : u ∈ g.succ.getD v []) (hrc : (r ++ [(v : Int)]).count (v : Int) ≤ (g.succ.getD v []).count u) (hsr : ∀ x ∈ g.succ.getD v [], 0 ≤ x ∧ x < t.length) :
    Inv g p t a (r ++ [(v : Int)]) (attStep g p u st v) := by
  have hvl : v < st.inn.length := by rw [hok.li]; exact hv
  have hvm : v < st.mv.length := by rw [hok.lm]; exact hv
  have hvf : v < st.lf.length := by rw [hok.ll]; exact hv
  have hua : u ∈ st.q := by rw [← hu]; exact getD_mem ha
  have hunot : u ∉ st.q.take a := by
    intro hx
    obtain ⟨j, hj, e⟩ := mem_getD hx
    have hja : j < a := by simp at hj; omega
    have e1 : st.q.getD j 0 = u := by
      rw [getD_lt _ _ _ hj] at e
      rw [getD_lt _ _ _ (by omega), ← e]
      simp
    rw [getD_lt _ _ _ (by omega)] at e1 hu
    have := (List.getElem_inj h.nd).1 (e1.trans hu.symm)
    omega
  have hcnt : (g.succ.getD v []).count u ≤ ((g.succ.getD v []).filter (fun x => decide (x ∉ st.q.take a))).length := by
    rw [← List.countP_eq_length_filter, List.count]
    refine List.countP_mono_left fun x _ hx => ?_
    have : x = u := by simpa using hx
    subst this
    simpa using hunot
  have hrv : (r ++ [(v : Int)]).count (v : Int) = r.count (v : Int) + 1 := by simp
  have hro : ∀ w : Nat, w ≠ v → (r ++ [(v : Int)]).count (w : Int) = r.count (w : Int) := fun w hw => by
    have : ¬ ((v : Int) = w) := by omega
    simp [this]
  simp only [attStep, Int.toNat_natCast]
  have hlfn : ∀ w, w < t.length → (st.lf.set v (st.lf.getD v 0 - 1)).getD w 0 = (((g.succ.getD w []).filter (fun x => decide (x ∉ st.q.take a))).length : Int) - ((r ++ [(v : Int)]).count (w : Int) : Int) := fun w hw => by
    by_cases e : v = w
    · subst e
      rw [getD_set_eq _ _ _ _ hvf, h.lf v hv, hrv]; omega
    · rw [getD_set_ne _ _ _ _ _ e, h.lf w hw, hro w (Ne.symm e)]
  split
  case isFalse hc =>
    refine ⟨h.nd, h.iq, hlfn, fun w hw hq ho => ?_, fun w hw hq ho => ?_, h.mo, h.m1, h.mj, h.tg, h.gd, h.no⟩
    · have hwv : w ≠ v := by
        rintro rfl
        refine hc ⟨?_, .inl ho⟩
        cases hb : st.inn.getD w false
        · rfl
        · exact absurd ((h.iq w hw).1 hb) hq
      refine ⟨(h.ow w hw hq ho).1, ?_⟩
      intro hx
      rcases List.mem_append.1 hx with hx | hx
      · exact (h.ow w hw hq ho).2 hx
      · have := List.mem_singleton.1 hx; omega
    · simp only
      by_cases e : v = w
      · subst e
        intro h0
        refine hc ⟨?_, .inr h0⟩
        cases hb : st.inn.getD v false
        · rfl
        · exact absurd ((h.iq v hw).1 hb) hq
      · rw [getD_set_ne _ _ _ _ _ e]; exact h.ot w hw hq ho
  case isTrue hc =>
    obtain ⟨hin, hcond⟩ := hc
    have hvq : (v : Int) ∉ st.q := fun hx => by rw [(h.iq v hv).2 hx] at hin; cases hin
    have huv : u ≠ v := fun e => hvq (e ▸ hua)
    have hur := hok.qr u hua
    have htake : (st.q ++ [(v : Int)]).take a = st.q.take a := List.take_append_of_le_length (by omega)
    have hat : ∀ x ∈ st.q, (Att.mk (st.inn.set v true) (st.mv.set v (st.mv.getD u.toNat 0 + 1)) (st.lf.set v (st.lf.getD v 0 - 1)) (st.q ++ [(v : Int)])).at x = st.at x := fun x hx => by
      have hxr := hok.qr x hx
      have : v ≠ x.toNat := by rintro e; apply hvq; rw [e]; rwa [Int.toNat_of_nonneg hxr.1]
      show (st.mv.set v _).getD x.toNat 0 = _
      rw [getD_set_ne _ _ _ _ _ this]; rfl
    have hatv : (Att.mk (st.inn.set v true) (st.mv.set v (st.mv.getD u.toNat 0 + 1)) (st.lf.set v (st.lf.getD v 0 - 1)) (st.q ++ [(v : Int)])).at v = st.at u + 1 := by
      show (st.mv.set v _).getD (Int.toNat v) 0 = _
      rw [Int.toNat_natCast, getD_set_eq _ _ _ _ hvm]; rfl
    have hq1 : ∀ j, j < st.q.length → (st.q ++ [(v : Int)]).getD j 0 = st.q.getD j 0 := fun j hj => by simp [List.getD, List.getElem?_append_left hj]
    have hq2 : (st.q ++ [(v : Int)]).getD st.q.length 0 = v := by simp [List.getD]
    have huat : st.at u = st.at (st.q.getD a 0) := by rw [hu]
    have hul : 0 ≤ st.at u ∧ st.at u ≤ a := by rw [huat]; exact h.mj a ha
    generalize hst : Att.mk (st.inn.set v true) (st.mv.set v (st.mv.getD u.toNat 0 + 1)) (st.lf.set v (st.lf.getD v 0 - 1)) (st.q ++ [(v : Int)]) = st' at *
    have hq' : st'.q = st.q ++ [(v : Int)] := by rw [← hst]
    have hi' : st'.inn = st.inn.set v true := by rw [← hst]
    have hl' : st'.lf = st.lf.set v (st.lf.getD v 0 - 1) := by rw [← hst]
    have hatj : ∀ j, j < st.q.length → st'.at (st'.q.getD j 0) = st.at (st.q.getD j 0) := fun j hj => by
      rw [hq', hq1 j hj]; exact hat _ (getD_mem hj)
    have hlen : st'.q.length = st.q.length + 1 := by rw [hq']; simp
    have hatl : st'.at (st'.q.getD st.q.length 0) = st.at u + 1 := by rw [hq', hq2]; exact hatv
    refine ⟨?_, fun i hi => ?_, fun w hw => ?_, fun w hw hq ho => ?_, fun w hw hq ho => ?_, fun i j hij hj => ?_, fun j hj _ => ?_, fun j hj => ?_, fun w hw => ?_, fun w hw hq h0 => ?_, fun w hw hq => ?_⟩
    · rw [hq', List.nodup_append]
      refine ⟨h.nd, by simp, ?_⟩
      intro x hx y hy e
      rw [List.mem_singleton.1 hy] at e
      exact hvq (e ▸ hx)
    · rw [hi', hq', List.mem_append, List.mem_singleton]
      by_cases e : v = i
      · subst e
        rw [getD_set_eq _ _ _ _ hvl]; simp
      · rw [getD_set_ne _ _ _ _ _ e, h.iq i hi]
        constructor
        · exact .inl
        · rintro (hx | hx)
          · exact hx
          · omega
    · rw [hl', hq', htake]; exact hlfn w hw
    · rw [hq', List.mem_append, List.mem_singleton] at hq
      rw [hq', htake]
      have hq0 : (w : Int) ∉ st.q := fun x => hq (.inl x)
      refine ⟨(h.ow w hw hq0 ho).1, fun hx => ?_⟩
      rcases List.mem_append.1 hx with hx | hx
      · exact (h.ow w hw hq0 ho).2 hx
      · exact hq (.inr (List.mem_singleton.1 hx))
    · rw [hq', List.mem_append, List.mem_singleton] at hq
      have hwv : v ≠ w := fun e => hq (.inr (by omega))
      rw [hl', getD_set_ne _ _ _ _ _ hwv]
      exact h.ot w hw (fun x => hq (.inl x)) ho
    · rw [hlen] at hj
      by_cases ej : j = st.q.length
      · subst ej
        rw [hatl]
        by_cases ei : i = st.q.length
        · subst ei; rw [hatl]; omega
        · rw [hatj i (by omega), huat]; exact h.m1 i (by omega) ha
      · rw [hatj j (by omega), hatj i (by omega)]; exact h.mo i j hij (by omega)
    · rw [hlen] at hj
      rw [hatj a ha]
      by_cases ej : j = st.q.length
      · subst ej; rw [hatl, huat]; omega
      · rw [hatj j (by omega)]; exact h.m1 j (by omega) ha
    · rw [hlen] at hj
      by_cases ej : j = st.q.length
      · subst ej; rw [hatl]; omega
      · rw [hatj j (by omega)]; exact h.mj j (by omega)
    · rw [h.tg w hw, hq', List.mem_append, List.mem_singleton]
      by_cases e : v = w
      · subst e
        rw [hatv]
        constructor
        · rintro ⟨hx, _⟩; exact absurd hx hvq
        · rintro ⟨_, h0⟩; omega
      · constructor
        · rintro ⟨hx, h0⟩; exact ⟨.inl hx, by rw [hat _ hx]; exact h0⟩
        · rintro ⟨hx | hx, h0⟩
          · exact ⟨hx, by rw [hat _ hx] at h0; exact h0⟩
          · omega
    · -- why a member has its number
      have hsubq : ∀ x, x ∈ st.q → x ∈ st'.q := fun x hx => by rw [hq']; exact List.mem_append_left _ hx
      by_cases e : v = w
      · subst e
        have hall : ∀ x ∈ st.q, x ∉ st.q.take a → st.at u ≤ st.at x := fun x hx hnx => by
          obtain ⟨j, hj, ej⟩ := mem_getD hx
          have haj : a ≤ j := by
            rcases Nat.lt_or_ge j a with hlt | hge
            · exfalso
              apply hnx
              rw [← ej, getD_lt _ _ _ hj]
              rw [List.mem_take_iff_getElem]
              exact ⟨j, by omega, rfl⟩
            · exact hge
          rw [huat, ← ej]; exact h.mo a j haj hj
        have hdone : ∀ x ∈ st.q.take a, st.at x ≤ st.at u := fun x hx => by
          obtain ⟨j, hj, ej⟩ := mem_getD hx
          have hja : j < a := by simp at hj; omega
          have e1 : st.q.getD j 0 = x := by
            rw [getD_lt _ _ _ hj] at ej
            rw [getD_lt _ _ _ (by omega), ← ej]
            simp
          rw [huat, ← e1]; exact h.mo j a (by omega) ha
        refine ⟨fun ho => ⟨⟨u, hsu, hsubq u hua, by rw [hat u hua, hatv]⟩, fun x hx hxq => ?_⟩, fun ho => ⟨⟨u, hsu, hsubq u hua, by rw [hat u hua, hatv]⟩, fun x hx => ?_⟩⟩
        · rw [hatv]
          rw [hq', List.mem_append, List.mem_singleton] at hxq
          rcases hxq with hxq | hxq
          · rw [hat x hxq]
            have := hall x hxq ((h.ow v hv hvq ho).1 x hx)
            omega
          · subst hxq; rw [hatv]; omega
        · -- all successors are done or u
          have h0' : (st.lf.set v (st.lf.getD v 0 - 1)).getD v 0 = 0 := by
            rcases hcond with hc | hc
            · exact absurd hc ho
            · exact hc
          have hl := hlfn v hv
          rw [h0', hrv] at hl
          have hxd : x ∈ st.q.take a ∨ x = u := by
            by_cases hxt : x ∈ st.q.take a
            · exact .inl hxt
            · refine .inr ?_
              by_cases hxu : x = u
              · exact hxu
              · exfalso
                have h1 : (g.succ.getD v []).count u < ((g.succ.getD v []).filter (fun x => decide (x ∉ st.q.take a))).length := by
                  rw [← List.countP_eq_length_filter, List.count]
                  have h2 := count_two (P := fun x => decide (x ∉ st.q.take a)) hxu (by simpa using hunot) (by simpa using hxt) (g.succ.getD v [])
                  rw [List.count, List.count] at h2
                  have h3 : 0 < List.countP (fun y => y == x) (g.succ.getD v []) := List.countP_pos_iff.2 ⟨x, hx, by simp⟩
                  omega
                rw [hrv] at hrc
                omega
          rcases hxd with hxt | rfl
          · have hxq : x ∈ st.q := List.mem_of_mem_take hxt
            exact ⟨hsubq x hxq, by rw [hat x hxq, hatv]; have := hdone x hxt; omega⟩
          · exact ⟨hsubq x hua, by rw [hat x hua, hatv]; omega⟩
      · have hwq : (w : Int) ∈ st.q := by
          rw [hq', List.mem_append, List.mem_singleton] at hq
          rcases hq with hq | hq
          · exact hq
          · omega
        rw [hat _ hwq] at h0
        obtain ⟨g1, g2⟩ := h.gd w hw hwq h0
        have hwu : st.at w ≤ st.at u + 1 := by
          obtain ⟨j, hj, ej⟩ := mem_getD hwq
          rw [huat, ← ej]; exact h.m1 j hj ha
        refine ⟨fun ho => ?_, fun ho => ?_⟩
        · obtain ⟨⟨x, hx, hxq, hxe⟩, g3⟩ := g1 ho
          refine ⟨⟨x, hx, hsubq x hxq, by rw [hat x hxq, hat _ hwq]; exact hxe⟩, fun y hy hyq => ?_⟩
          rw [hat _ hwq]
          rw [hq', List.mem_append, List.mem_singleton] at hyq
          rcases hyq with hyq | hyq
          · rw [hat y hyq]; exact g3 y hy hyq
          · subst hyq; rw [hatv]; omega
        · obtain ⟨⟨x, hx, hxq, hxe⟩, g3⟩ := g2 ho
          refine ⟨⟨x, hx, hsubq x hxq, by rw [hat x hxq, hat _ hwq]; exact hxe⟩, fun y hy => ?_⟩
          obtain ⟨hyq, hye⟩ := g3 y hy
          exact ⟨hsubq y hyq, by rw [hat y hyq, hat _ hwq]; exact hye⟩
    · rw [hq', List.mem_append, List.mem_singleton] at hq
      have hwv : v ≠ w := fun e => hq (.inr (by omega))
      rw [← h.no w hw (fun x => hq (.inl x))]
      rw [← hst]
      show (st.mv.set v _).getD (Int.toNat w) 0 = _
      rw [Int.toNat_natCast, getD_set_ne _ _ _ _ _ hwv]; rfl

end Go.Proofs.Ytjhafakkadnfmaa
