/- The law ArenaStates, its plain part: the states of the places, how many positions each has, other limits. -/
import Derived.Test.YtjadeffdcbchnaaDoorAr40
import Derived.Test.YtjadeffdcbchnaaDoorAr42
namespace Go.Proofs.YtjadeffdcbchnaaDoor

section
variable {S : Pl → List Pl}
theorem bfs_len {most : Nat} : ∀ (f k : Nat) (l r : List Pl), bfsF S most f k l = some r → l.length ≤ most → r.length ≤ most := by
  intro f
  induction f with
  | zero => intro k l r h; cases h
  | succ f ih =>
    intro k l r h hl
    unfold bfsF at h
    by_cases hk : k < l.length
    · rw [dif_pos hk] at h
      split at h
      · rename_i hm; exact ih _ _ _ h hm
      · cases h
    · rw [dif_neg hk] at h
      cases h
      exact hl
theorem bfs_lim {most most' : Nat} : ∀ (f f' k : Nat) (l r : List Pl), bfsF S most f k l = some r → r.length ≤ most' → k ≤ l.length → r.length + 1 ≤ f' + k → bfsF S most' f' k l = some r := by
  intro f
  induction f with
  | zero => intro f' k l r h; cases h
  | succ f ih =>
    intro f' k l r h hr hkl hf
    obtain ⟨⟨e0, he0⟩, -, -⟩ := bfs_run _ _ _ _ h hkl
    have hlr : l.length ≤ r.length := by rw [he0]; simp
    obtain ⟨f1, rfl⟩ : ∃ f1, f' = f1 + 1 := ⟨f' - 1, by omega⟩
    unfold bfsF at h ⊢
    by_cases hk : k < l.length
    · rw [dif_pos hk] at h ⊢
      split at h
      · obtain ⟨e1, he1⟩ := addA_pre l (S l[k])
        have hk1 : k + 1 ≤ (addA l (S l[k])).length := by rw [he1]; simp; omega
        obtain ⟨⟨e2, he2⟩, -, -⟩ := bfs_run _ _ _ _ h hk1
        have h5 : (addA l (S l[k])).length ≤ r.length := by
          conv => rhs; rw [he2]
          simp
        rw [if_pos (by omega)]
        exact ih f1 (k + 1) _ _ h hr hk1 (by omega)
      · cases h
    · rw [dif_neg hk] at h ⊢
      exact h
end
section
variable {a : Au} {l : List Sig} {r : List Pl}
theorem build_same {most most' : Nat} (h : buildP a l most = some r) (hr : r.length ≤ most') : buildP a l most' = some r :=
  bfs_lim _ _ _ _ _ h hr (by simp) (by omega)
theorem build_less {most most' : Nat} (h : buildP a l most = some r) (h1 : 1 ≤ most') (hr : most' < r.length) : buildP a l most' = none := by
  cases h2 : buildP a l most' with
  | none => rfl
  | some r2 =>
    have h3 := bfs_len _ _ _ _ h2 (by simpa using h1)
    have h4 := build_same h2 (Nat.le_refl _)
    have h5 : r2.length ≤ r.length ∨ r.length < r2.length := by omega
    rcases h5 with h5 | h5
    · have h6 := build_same (most' := r.length) h2 h5
      rw [build_same h (Nat.le_refl _)] at h6
      cases h6
      omega
    · omega
theorem st_mem {T : List (List Int)} (hA : AuOK a T) (hT : ∀ i : Nat, i < T.length → ∀ v ∈ T.getD i [], v < a.letters) {L : List Int} (hL : ReachL a L) {most : Nat} {x0 : Pl} (hx : x0.st ∈ L ∧ PlOK a T x0) (h : bfsF (succPl a T) most (most + 1) 0 [x0] = some r) : ∀ y ∈ r, y.st ∈ L := fun y hy => by
  refine (bfs_all (P := fun y => y.st ∈ L ∧ PlOK a T y) (fun y hy x hxs => ⟨?_, hA.succ hy.2 x hxs⟩) _ _ _ _ h (fun y hy => by rw [List.mem_singleton.1 hy]; exact hx) y hy).1
  unfold succPl at hxs
  split at hxs
  · obtain ⟨i, hi, rfl⟩ := List.mem_map.1 hxs
    exact hy.1
  · have hin := hy.2.inn
    obtain ⟨v, hv, rfl⟩ := List.mem_map.1 hxs
    have hi : y.inn.toNat < T.length := by omega
    have h1 := hT _ hi v hv
    have h2 := (hy.2.lets _ hi v hv).1
    exact hL.cl _ hy.1 v.toNat (by omega)

/-- How many of some places are behind an input, in a state. -/
def cntP (r : List Pl) (q : Int) : Nat := (r.filter fun y => decide (y.st = q) && decide (0 ≤ y.inn)).length
theorem joinT_lt (hs : validS l = true) (he : a.letters = lettersI l) : ∀ i : Nat, i < (joinT l).length → ∀ v ∈ (joinT l).getD i [], v < a.letters := fun i hi v hv => by
  rw [joinT_len] at hi
  rw [joinT_row hi] at hv
  obtain ⟨o, ho, rfl⟩ := List.mem_map.1 hv
  have := List.mem_range.1 ho
  have := (join_law hs (i := (i : Int)) (o := (o : Int)) (by omega) (by omega) (by omega) (by omega)).1.2
  omega
theorem places_st (hs : validS l = true) (hv : validA a = true) (he : a.letters = lettersI l) {most : Nat} (h : buildP a l most = some r) {L : List Int} (hL : ReachL a L) : ∀ y ∈ r, y.st ∈ L :=
  st_mem (auOK hs hv he) (joinT_lt hs he) hL ⟨hL.st, (start_ok hv (auOK hs hv he)).1.1⟩ h
theorem places_cnt (hs : validS l = true) (hv : validA a = true) (he : a.letters = lettersI l) {most : Nat} (h : buildP a l most = some r) {L : List Int} (hL : ReachL a L) (q : Int) :
    (cntP r q : Int) = if q ∈ L then inputsI l else 0 := by
  have F := found_of h
  have hA := auOK hs hv he
  have hok := places_ok hv hA h
  have hst := places_st hs hv he h hL
  have hjt := joinT_len l
  obtain ⟨⟨hi0, hi1⟩, ⟨ho0, ho1⟩⟩ := sides_bd hs
  by_cases hq : q ∈ L
  · rw [if_pos hq]
    have hex : ∀ q ∈ L, ∃ y ∈ r, y.st = q ∧ y.inn = -1 := hL.ls (fun q => ∃ y ∈ r, y.st = q ∧ y.inn = -1) ⟨_, List.mem_of_getElem? F.hd, rfl, rfl⟩ fun q x h0 h1 ⟨y, hy, e1, e2⟩ hx => by
      obtain ⟨j, hj, rfl⟩ := List.mem_iff_getElem.1 hy
      obtain ⟨⟨a1, a2⟩, ⟨b1, b2⟩, c⟩ := halves_law hs (a := (x : Int)) (by omega) (by omega)
      have m1 : (⟨q, halfI l true x, -1⟩ : Pl) ∈ r := by
        refine F.closed hj _ ?_
        unfold succPl
        rw [if_pos (by omega), List.mem_map]
        exact ⟨(halfI l true x).toNat, by rw [List.mem_range]; omega, by rw [e1, Int.toNat_of_nonneg a1]⟩
      obtain ⟨j2, hj2, e3⟩ := List.mem_iff_getElem.1 m1
      refine ⟨⟨nxQ a q x, -1, (a.prio.getD q.toNat []).getD x 0⟩, F.closed hj2 _ ?_, rfl, rfl⟩
      rw [e3]
      unfold succPl
      rw [if_neg (by show ¬ halfI l true x < 0; omega), List.mem_map]
      refine ⟨(x : Int), ?_, by rw [Int.toNat_natCast]; rfl⟩
      show _ ∈ (joinT l).getD (halfI l true x).toNat []
      rw [joinT_row (by omega), List.mem_map]
      exact ⟨(halfI l false x).toNat, by rw [List.mem_range]; omega, by rw [Int.toNat_of_nonneg a1, Int.toNat_of_nonneg b1, c]⟩
    obtain ⟨y0, hy0, e1, e2⟩ := hex q hq
    obtain ⟨j, hj, rfl⟩ := List.mem_iff_getElem.1 hy0
    have hp : (r.filter fun y => decide (y.st = q) && decide (0 ≤ y.inn)).Perm ((List.range (inputsI l).toNat).map fun (i : Nat) => (⟨q, (i : Int), -1⟩ : Pl)) := by
      refine (List.perm_ext_iff_of_nodup (List.Nodup.sublist List.filter_sublist F.nd) ?_).2 fun y => ?_
      · rw [List.nodup_iff_pairwise_ne, List.pairwise_map]
        refine List.Pairwise.imp ?_ (List.nodup_iff_pairwise_ne.1 List.nodup_range)
        intro i k hik e
        injection e with _ e _
        exact hik (by omega)
      · rw [List.mem_filter, List.mem_map]
        simp only [Bool.and_eq_true, decide_eq_true_eq]
        constructor
        · rintro ⟨hy, e3, e4⟩
          obtain ⟨p1, p2, p3⟩ := hok y hy
          have hin := p1.inn
          rcases p3 with p3 | p3
          · omega
          · refine ⟨y.inn.toNat, by rw [List.mem_range]; omega, ?_⟩
            cases y
            simp only at e3 e4 p3 ⊢
            rw [Int.toNat_of_nonneg e4, e3, p3.2]
        · rintro ⟨i, hi, rfl⟩
          have hi := List.mem_range.1 hi
          refine ⟨F.closed hj _ ?_, rfl, by show (0 : Int) ≤ (i : Int); omega⟩
          unfold succPl
          rw [if_pos (by omega), List.mem_map]
          exact ⟨i, by rw [List.mem_range]; omega, by rw [e1]⟩
    have := hp.length_eq
    unfold cntP
    rw [this, List.length_map, List.length_range]
    omega
  · rw [if_neg hq]
    unfold cntP
    rw [List.filter_eq_nil_iff.2 fun y hy => by
      simp only [Bool.and_eq_true, decide_eq_true_eq]
      rintro ⟨e, -⟩
      exact hq (e ▸ hst y hy)]
    rfl
end

/-- The counts, when the first k places have been looked at. -/
def cntL (n : Nat) (r : List Pl) (k : Nat) : List Int := (List.range n).map fun (v : Nat) => (cntP (r.take k) (v : Int) : Int)
theorem cntL_len (n : Nat) (r : List Pl) (k : Nat) : (cntL n r k).length = n := by simp [cntL]
theorem cntL_get (n : Nat) (r : List Pl) (k v : Nat) (h : v < n) : (cntL n r k).getD v 0 = (cntP (r.take k) (v : Int) : Int) := by simp [cntL, h]
theorem cntL_zero (n : Nat) (r : List Pl) : cntL n r 0 = List.replicate n 0 := by
  refine List.ext_getElem (by simp [cntL]) fun i h1 h2 => ?_
  simp [cntL, cntP]
theorem cntP_snoc (r : List Pl) (k : Nat) (hk : k < r.length) (q : Int) : cntP (r.take (k + 1)) q = cntP (r.take k) q + if r[k].st = q ∧ 0 ≤ r[k].inn then 1 else 0 := by
  unfold cntP
  rw [List.take_succ_eq_append_getElem hk, List.filter_append, List.length_append]
  congr 1
  by_cases h : r[k].st = q ∧ 0 ≤ r[k].inn
  · rw [if_pos h, List.filter_cons_of_pos (by simpa using h)]; rfl
  · rw [if_neg h, List.filter_cons_of_neg (by simpa using h)]; rfl
theorem cntL_keep (n : Nat) (r : List Pl) (k : Nat) (hk : k < r.length) (h : r[k].inn < 0) : cntL n r (k + 1) = cntL n r k := by
  unfold cntL
  refine List.map_congr_left fun v _ => ?_
  rw [cntP_snoc _ _ hk, if_neg (by omega)]; rfl
theorem cntL_set (n : Nat) (r : List Pl) (k v : Nat) (hk : k < r.length) (hv : r[k].st = (v : Int)) (h : 0 ≤ r[k].inn) : (cntL n r k).set v ((cntP (r.take k) (v : Int) : Int) + 1) = cntL n r (k + 1) := by
  refine List.ext_getElem (by simp [cntL]) fun u h1 h2 => ?_
  rw [List.getElem_set]
  by_cases e : v = u
  · subst e
    simp only [cntL, List.getElem_map, List.getElem_range]
    rw [if_pos trivial, cntP_snoc _ _ hk, if_pos ⟨hv, h⟩]; omega
  · rw [if_neg e]
    simp only [cntL, List.getElem_map, List.getElem_range]
    rw [cntP_snoc _ _ hk, if_neg (by omega)]; rfl
theorem cntP_le (r : List Pl) (k : Nat) (q : Int) : cntP (r.take k) q ≤ r.length := by
  unfold cntP
  exact Nat.le_trans (List.length_filter_le _ _) (by rw [List.length_take]; omega)

end Go.Proofs.YtjadeffdcbchnaaDoor
