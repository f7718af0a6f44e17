/- The part of the positions where a player's measure is not top: the player wins everywhere there. -/
import Derived.Test.YtijkjhcigdfdgaaQRkA1
namespace Go.Proofs.Ytijkjhcigdfdgaa

theorem keptI_mono (s : List Bool) {v k : Nat} (h : v ≤ k) : (keptI s v).length ≤ (keptI s k).length := by
  induction k with
  | zero => obtain rfl : v = 0 := by omega
            exact Nat.le_refl _
  | succ k ih =>
    by_cases e : v = k + 1
    · rw [e]; exact Nat.le_refl _
    · have := ih (by omega)
      rw [keptI_succ]
      split
      · rw [List.length_append]; omega
      · exact this
theorem keptI_lt (s : List Bool) {v k : Nat} (h : v < k) (hs : s.getD v false = true) : (keptI s v).length < (keptI s k).length := by
  have h1 := keptI_mono s (v := v + 1) (k := k) (by omega)
  rw [keptI_succ, if_pos hs, List.length_append] at h1
  simp at h1; omega
/-- The part of a trap is a game. -/
theorem part_valid {g : Gm} {p : Int} {s : List Bool} (F : Fits g p s.length) (hT : trapB g p s = true) (hv : validB g = true) :
    partOK g s (keptI s s.length) = true ∧ validB (partG g s (keptI s s.length)) = true := by
  rw [trapB_iff F] at hT
  have hk := keptI_len s s.length
  have hle := F.le
  have hsome : ∀ v ∈ keptI s s.length, ∃ n : Nat, v = n ∧ n < s.length ∧ ∃ x ∈ g.succ.getD n [], atB s x = true := fun v hv => by
    obtain ⟨n, rfl, hn, hs⟩ := keptI_mem hv
    refine ⟨n, rfl, hn, ?_⟩
    obtain ⟨k1, k2⟩ := hT n hn hs
    by_cases e : g.owner.getD n 0 = p
    · obtain ⟨x, hx⟩ := List.exists_mem_of_ne_nil _ (F.ne n hn)
      exact ⟨x, hx, k2 e x hx⟩
    · exact k1 e
  have hne : ∀ v ∈ keptI s s.length, (subI s (g.succ.getD v.toNat [])).isEmpty = false := fun v hv => by
    obtain ⟨n, rfl, hn, x, hx, hb⟩ := hsome v hv
    rw [Int.toNat_natCast]
    cases h : subI s (g.succ.getD n []) with
    | nil =>
      have : ((keptI s x.toNat).length : Int) ∈ subI s (g.succ.getD n []) := List.mem_map.2 ⟨x, List.mem_filter.2 ⟨hx, hb⟩, rfl⟩
      rw [h] at this; cases this
    | cons a l => rfl
  refine ⟨?_, ?_⟩
  · rw [partOK, List.all_eq_true]
    intro v hv
    rw [hne v hv]; rfl
  · obtain ⟨a, b, c⟩ := valid_lens hv
    have hv2 := (validB_iff g a b c).1 hv
    simp only [okB, Bool.and_eq_true, decide_eq_true_eq] at hv2
    have hon := F.on
    rw [validB_iff _ (by simp only [partG, List.length_map]; omega) (by simp [partG]) (by simp [partG])]
    intro i hi
    simp only [partG, List.length_map] at hi
    obtain ⟨n, hn1, hn2, -⟩ := hsome _ (List.getElem_mem hi)
    have h2 := hv2 n (by omega)
    have h3 := hne _ (List.getElem_mem hi)
    have e1 : (partG g s (keptI s s.length)).owner.getD i 0 = g.owner.getD n 0 := by simp [partG, List.getD, hi, hn1]
    have e2 : (partG g s (keptI s s.length)).prio.getD i 0 = g.prio.getD n 0 := by simp [partG, List.getD, hi, hn1]
    have e3 : (partG g s (keptI s s.length)).succ.getD i [] = subI s (g.succ.getD n []) := by simp [partG, List.getD, hi, hn1]
    have e4 : (partG g s (keptI s s.length)).owner.length = (keptI s s.length).length := by simp [partG]
    rw [okB, e1, e2, e3, e4]
    simp only [Bool.and_eq_true, decide_eq_true_eq, Bool.not_eq_true']
    rw [hn1, Int.toNat_natCast] at h3
    refine ⟨⟨⟨h2.1.1.1, h2.1.1.2⟩, h3⟩, ?_⟩
    rw [inB, List.all_eq_true]
    intro x hx
    unfold subI at hx
    obtain ⟨y, hy, rfl⟩ := List.mem_map.1 hx
    rw [List.mem_filter] at hy
    have hr := F.rg n hn2 y hy.1
    have := keptI_lt s (v := y.toNat) (k := s.length) (by omega) hy.2
    simp only [Bool.and_eq_true, decide_eq_true_eq]
    omega

theorem Plus.map {r s : Nat → Nat → Prop} (f : Nat → Nat) (h : ∀ a b, r a b → s (f a) (f b)) {a b : Nat} (k : Plus r a b) : Plus s (f a) (f b) := by
  induction k with
  | one k => exact .one (h _ _ k)
  | more k _ ih => exact .more (h _ _ k) ih

theorem keptI_at (s : List Bool) (v : Nat) (hs : s.getD v false = true) : ∀ k, v < k → (keptI s k).getD (keptI s v).length 0 = (v : Int) := by
  intro k
  induction k with
  | zero => intro h; omega
  | succ k ih =>
    intro h
    rw [keptI_succ]
    by_cases e : v = k
    · subst e
      rw [if_pos hs]
      simp [List.getD]
    · have hv : v < k := by omega
      have hlt := keptI_lt s hv hs
      have := ih hv
      split
      · rw [List.getD, List.getElem?_append_left hlt]; exact this
      · exact this

/-- Where a player wins, the part is a game, and the player wins everywhere in it. -/
theorem part_won {g : Gm} (hv : validB g = true) {p : Int} (hp : p = 0 ∨ p = 1) {s : List Bool} (hsl : s.length = g.owner.length) (hget : ∀ i, i < g.owner.length → (s.getD i false = true ↔ (solR g).getD i 0 = p)) :
    partR g s = (partG g s (keptI s g.owner.length), keptI s g.owner.length) ∧
    validB (partG g s (keptI s g.owner.length)) = true ∧ (∀ j, j < (keptI s g.owner.length).length → (solR (partG g s (keptI s g.owner.length))).getD j 0 = p) := by
  have F := valid_fits hv (1 - p) (by omega)
  have hT : trapB g (1 - p) s = true := by
    obtain ⟨σ, hD⟩ := (((solR_is g).2 hv).2).dom hp
    rw [trapB_iff (by rw [hsl]; exact F)]
    intro i hi hsi
    rw [hsl] at hi
    have hDi := (hget i hi).1 hsi
    have ho := valid_own hv i hi
    have hat : ∀ j : Nat, j < g.owner.length → (solR g).getD j 0 = p → atB s (j : Int) = true := fun j hj h => (hget j hj).2 h
    refine ⟨fun hne => ?_, fun he x hx => ?_⟩
    · have hown : own g i = p := by
        have : own g i ≠ 1 - p := hne
        omega
      obtain ⟨h1, h2⟩ := hD.mine i ⟨hi, hDi⟩ hown
      exact ⟨_, h1, hat _ h2.1 h2.2⟩
    · have hown : own g i ≠ p := by
        have : own g i = 1 - p := he
        omega
      obtain ⟨j, rfl, hj⟩ := valid_rg hv i hi x hx
      have h2 := hD.other i ⟨hi, hDi⟩ hown j hx hj
      exact hat j h2.1 h2.2
  obtain ⟨q1, q2⟩ := part_valid (by rw [hsl]; exact F) hT hv
  rw [hsl] at q1 q2
  refine ⟨?_, q2, ?_⟩
  · unfold partR
    rw [hsl, hv, q1]; simp
  have hs := ((solR_is g).2 hv).2
  obtain ⟨σ, hD⟩ := hs.dom hp
  generalize hks : keptI s g.owner.length = ks at *
  have hkm : ∀ j, j < ks.length → ∃ v : Nat, ks.getD j 0 = v ∧ v < g.owner.length ∧ s.getD v false = true := fun j hj => by
    have := get_mem hj
    rw [← hks] at this
    obtain ⟨v, e, h1, h2⟩ := keptI_mem this
    rw [hks] at e
    exact ⟨v, e, h1, h2⟩
  have hm : (partG g s ks).owner.length = ks.length := by simp [partG]
  have eo : ∀ j, j < ks.length → own (partG g s ks) j = own g (ks.getD j 0).toNat := fun j hj => by
    unfold own; simp [partG, List.getD, hj]
  have ep : ∀ j, j < ks.length → pri (partG g s ks) j = pri g (ks.getD j 0).toNat := fun j hj => by
    unfold pri; simp [partG, List.getD, hj]
  have es : ∀ j, j < ks.length → (partG g s ks).succ.getD j [] = subI s (g.succ.getD (ks.getD j 0).toNat []) := fun j hj => by
    simp [partG, List.getD, hj]
  have hnum : ∀ v : Nat, v < g.owner.length → s.getD v false = true → (keptI s v).length < ks.length ∧ ks.getD (keptI s v).length 0 = (v : Int) := fun v hv hsv => by
    rw [← hks]; exact ⟨keptI_lt s hv hsv, keptI_at s v hsv _ hv⟩
  have hedge : ∀ j, j < ks.length → ∀ v : Nat, Edge g (ks.getD j 0).toNat v → s.getD v false = true → Edge (partG g s ks) j (keptI s v).length := fun j hj v he hsv => by
    unfold Edge
    rw [es j hj]
    exact List.mem_map.2 ⟨(v : Int), List.mem_filter.2 ⟨he, hsv⟩, by simp⟩
  have hedge2 : ∀ a b, a < ks.length → b < ks.length → Edge (partG g s ks) a b → Edge g (ks.getD a 0).toNat (ks.getD b 0).toNat := fun a b ha hb he => by
    unfold Edge at he
    rw [es a ha] at he
    obtain ⟨y, hy, e⟩ := List.mem_map.1 he
    obtain ⟨h1, h2⟩ := List.mem_filter.1 hy
    obtain ⟨u, eu, hun, -⟩ := hkm a ha
    rw [eu, Int.toNat_natCast] at h1 ⊢
    obtain ⟨v, rfl, hvn⟩ := valid_rg hv u hun y h1
    rw [Int.toNat_natCast] at e
    have hb' : b = (keptI s v).length := by omega
    have h3 := (hnum v hvn h2).2
    rw [← hb'] at h3
    unfold Edge
    rw [h3, Int.toNat_natCast]
    exact h1
  have hW : WinsBy (partG g s ks) p (fun j => j < ks.length) (fun j => j < ks.length) (fun j => (keptI s (σ (ks.getD j 0).toNat)).length) := by
    refine ⟨fun _ h => h, fun j hj ho => ?_, fun j _ _ i _ hi => hi, fun v hvk hl hP => ?_⟩
    · obtain ⟨u, eu, hun, hus⟩ := hkm j hj
      rw [eo j hj, eu, Int.toNat_natCast] at ho
      obtain ⟨h1, h2⟩ := hD.mine u ⟨hun, (hget u hun).1 hus⟩ ho
      have h3 := (hget _ h2.1).2 h2.2
      rw [eu, Int.toNat_natCast]
      refine ⟨hedge j hj _ (by rw [eu, Int.toNat_natCast]; exact h1) h3, (hnum _ h2.1 h3).1⟩
    · obtain ⟨u, eu, hun, hus⟩ := hkm v hvk
      refine hD.free u ⟨hun, (hget u hun).1 hus⟩ (by rw [ep v hvk, eu, Int.toNat_natCast] at hl; exact hl) ?_
      have := hP.map (s := Step g p (fun i => i < g.owner.length ∧ (solR g).getD i 0 = p) σ (pri g u)) (fun j => (ks.getD j 0).toNat) fun a b ⟨ha, hb, he, k1, k2, hst⟩ => by
        obtain ⟨x, ex, hxn, hxs⟩ := hkm a ha
        obtain ⟨y, ey, hyn, hys⟩ := hkm b hb
        have he2 := hedge2 a b ha hb he
        rw [ep v hvk, ep a ha] at k1
        rw [ep v hvk, ep b hb] at k2
        rw [eo a ha] at hst
        rw [eu, Int.toNat_natCast] at k1 k2
        have ea : (ks.getD a 0).toNat = x := by rw [ex, Int.toNat_natCast]
        have eb : (ks.getD b 0).toNat = y := by rw [ey, Int.toNat_natCast]
        simp only [ea, eb] at he2 k1 k2 hst ⊢
        refine ⟨⟨hxn, (hget x hxn).1 hxs⟩, ⟨hyn, (hget y hyn).1 hys⟩, he2, k1, k2, fun ho => ?_⟩
        have h4 := hst ho
        obtain ⟨-, h2⟩ := hD.mine x ⟨hxn, (hget x hxn).1 hxs⟩ ho
        have h5 := (hnum _ h2.1 ((hget _ h2.1).2 h2.2)).2
        rw [← h4, ey] at h5
        omega
      simp only [eu, Int.toNat_natCast] at this
      exact this
  intro j hj
  have hsol := ((solR_is (partG g s ks)).2 q2).2
  rw [hm] at hsol
  exact hsol.has (n := ks.length) ⟨_, hW⟩ hp (fun _ h => h) (fun i hi => valid_own q2 i (by rw [hm]; exact hi)) j hj


end Go.Proofs.Ytijkjhcigdfdgaa
