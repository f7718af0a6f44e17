/- What the two functions Valid of strategies compute. -/
import Derived.Test.YtkbiopjinegckaaSt3
namespace Go.Proofs.Ytkbiopjinegckaa
open Go.RowKit

def stB (g : Gm) (p : Int) (set : List Bool) (s : List Int) : Bool :=
  (decide (p = 0) || decide (p = 1)) && validB g && decide (set.length = g.owner.length) && decide (s.length = g.owner.length) && (List.range set.length).all (keepsB g p set s)

theorem rangeA_succ (f : Nat → Bool) (k : Nat) : (List.range (k + 1)).all f = ((List.range k).all f && f k) := by
  rw [List.range_succ, List.all_append]; simp
theorem rangeA_false (f : Nat → Bool) (n k : Nat) (hk : k < n) (h : f k = false) : (List.range n).all f = false := by
  rw [List.all_eq_false]; exact ⟨k, List.mem_range.2 hk, by simp [h]⟩
theorem stB_false {g : Gm} {p : Int} {set : List Bool} {s : List Int} (h : (p != 0 && p != 1) = true ∨ validB g = false ∨ ¬ set.length = g.owner.length ∨ ¬ s.length = g.owner.length) : stB g p set s = false := by
  unfold stB
  rcases h with h | h | h | h
  · simp only [Bool.and_eq_true, bne_iff_ne, ne_eq] at h
    simp [h.1, h.2]
  · simp [h]
  · simp [h]
  · simp [h]
theorem stB_at {g : Gm} {p : Int} {set : List Bool} {s : List Int} (hp : p = 0 ∨ p = 1) (h : validB g = true) (h1 : set.length = g.owner.length) (h2 : s.length = g.owner.length) : stB g p set s = (List.range set.length).all (keepsB g p set s) := by
  unfold stB
  rcases hp with rfl | rfl <;> simp [h, h1, h2]

set_option maxHeartbeats 2000000 in
theorem StValid_1 (w : World) (vg vs vt : Value) (g : Gm) (p : Int) (set : List Bool) (s : List Int) (hg : IsGame w vg g) (hs : IsBools w vs set) (ht : IsInts w vt s) (hp : p = 0 ∨ p = 1) :
    Calls Try.prog 13 #[vg, .int .i64 p, vs, vt] w (Calm (.bool (stB g p set s)) w) := by
  have HK : Hid (∀ q : Int, q = p → ∀ W, Below w.heap.size w W → validB g = true → set.length = g.owner.length → s.length = g.owner.length → ∀ k, k < g.owner.length → Calls Try.prog 35 #[vg, .int .i64 q, vs, vt, .int .i64 k] W (Calm (.bool (keepsB g p set s k)) W)) :=
    fun q hq W hW hv h1 h2 k hk => hq ▸ keeps_c W _ _ _ g q set s k (hg.below hW) (hs.below hW) (ht.below hW) hv h1 h2 hk
  have HV : Hid (∀ W, Below w.heap.size w W → Calls Try.prog 29 #[vg] W (Calm (.bool (validB g)) W)) := fun W hW => AValid_c W _ g (hg.below hW)
  obtain ⟨v0, v1, v2, rfl, i0, i1, i2⟩ := hg
  obtain ⟨a0, c0, rfl⟩ := i0.shape
  obtain ⟨aS, cS, rfl⟩ := hs.shape
  obtain ⟨aT, cT, rfl⟩ := ht.shape
  obtain ⟨bS, oS, hdS, mS, ddS⟩ := hs.data
  clear i0 i1 i2 hs ht hdS ddS
  have HP : Hid (p = 0 ∨ p = 1) := hp
  cases hv : validB g
  · rcases hp with rfl | rfl
    all_goals
      go_enter Try.func13, Try.ntmps13
      go_wp2_with fail
      refine (HV.out _ (by repeat (first | exact Below.refl _ _ | assumption | (refine belA ?_ _) | (refine belD ?_ _) | (refine Below.drew ?_)))).mono ?_
      rintro e w1 ⟨rfl, hb1⟩
      rw [hv]
      have hB1 := (Boxed.start hb1).bl
      go_wp2
      go_ret
      exact ⟨ret_bool (stB_false (.inr (.inl hv))).symm, hB1⟩
  cases h1 : ((set.length : Int) != g.owner.length)
  case true =>
    rcases hp with rfl | rfl
    all_goals
      go_enter Try.func13, Try.ntmps13
      go_wp2_with fail
      refine (HV.out _ (by repeat (first | exact Below.refl _ _ | assumption | (refine belA ?_ _) | (refine belD ?_ _) | (refine Below.drew ?_)))).mono ?_
      rintro e w1 ⟨rfl, hb1⟩
      rw [hv]
      have hB1 := (Boxed.start hb1).bl
      go_wp2
      go_ret
      exact ⟨ret_bool (stB_false (.inr (.inr (.inl (by have := h1; simp at this; omega))))).symm, hB1⟩
  cases h2 : ((s.length : Int) != g.owner.length)
  case true =>
    rcases hp with rfl | rfl
    all_goals
      go_enter Try.func13, Try.ntmps13
      go_wp2_with fail
      refine (HV.out _ (by repeat (first | exact Below.refl _ _ | assumption | (refine belA ?_ _) | (refine belD ?_ _) | (refine Below.drew ?_)))).mono ?_
      rintro e w1 ⟨rfl, hb1⟩
      rw [hv]
      have hB1 := (Boxed.start hb1).bl
      go_wp2
      go_ret
      exact ⟨ret_bool (stB_false (.inr (.inr (.inr (by have := h2; simp at this; omega))))).symm, hB1⟩
  have e1 : set.length = g.owner.length := by have := h1; simp at this; omega
  have e2 : s.length = g.owner.length := by have := h2; simp at this; omega
  have HE1 := Lib.hid e1
  have HE2 := Lib.hid e2
  have HF : Hid (stB g p set s = (List.range set.length).all (keepsB g p set s)) := stB_at hp hv e1 e2
  have HV1 := Lib.hid hv
  clear e1 e2
  suffices hmain : ∀ q : Int, q = p → Calls Try.prog 13 #[.agg #[.slice a0 g.owner.length c0, v1, v2], .int .i64 q, .slice aS set.length cS, .slice aT s.length cT] w (Calm (.bool (stB g p set s)) w) from hmain p rfl
  intro q hq
  have HQ := Lib.hid hq
  rw [← hq] at hp
  clear hq
  rcases hp with rfl | rfl
  all_goals
    go_enter Try.func13, Try.ntmps13
    go_wp2_with fail
    refine (HV.out _ (by repeat (first | exact Below.refl _ _ | assumption | (refine belA ?_ _) | (refine belD ?_ _) | (refine Below.drew ?_)))).mono ?_
    rintro e w1 ⟨rfl, hb1⟩
    rw [HV1.out]
    have hbx := Boxed.start hb1
    clear hb1
    go_wp2
    go_loopg [8, 10, 39] set.length (fun gh r _ i wr => ∃ k : Nat, gh = set.length - k ∧ i = .int .i64 k ∧ r = .bool false ∧ k ≤ set.length ∧ Boxed w wr #[.slice a0 g.owner.length c0, v1, v2] ∧ Hid ((List.range k).all (keepsB g p set s) = true))
    case atStart => exact ⟨0, rfl, rfl, rfl, by omega, hbx, by simp [Hid]⟩
    case round =>
      obtain ⟨k, hgk, rfl, rfl, hk, hB, HE⟩ := hrel
      have HG := Lib.hid hgk
      clear hgk hbx
      have d0 := hB.cell 0 rfl
      have d1 := hB.cell 1 rfl
      have d2 := hB.cell 2 rfl
      by_cases hlt : k < set.length
      · have HC := Lib.hid (HK.out _ HQ.out wr hB.bl HV1.out HE1.out HE2.out k (by have := HE1.out; omega))
        go_wp2_with fail
        refine (HC.out).mono ?_
        rintro e w2 ⟨rfl, hb2⟩
        cases hc : keepsB g p set s k
        · go_wp2
          go_ret
          exact ⟨ret_bool (by rw [HF.out, rangeA_false _ _ k hlt hc]), (hB.step hb2).bl⟩
        · go_wp2
          go_roundg (set.length - (k + 1))
          case measure => have := HG.out; omega
          case rel => exact ⟨k + 1, rfl, by go_num, rfl, by omega, hB.step hb2, by show _ = _; rw [rangeA_succ, HE.out, hc]; rfl⟩
      · obtain rfl : k = set.length := by omega
        go_wp2
        go_ret
        exact ⟨ret_bool (by rw [HF.out, HE.out]), hB.bl⟩

theorem StValid_c (w : World) (vg vs vt : Value) (g : Gm) (p : Int) (set : List Bool) (s : List Int) (hg : IsGame w vg g) (hs : IsBools w vs set) (ht : IsInts w vt s) :
    Calls Try.prog 13 #[vg, .int .i64 p, vs, vt] w (Calm (.bool (stB g p set s)) w) := by
  by_cases hp : p = 0 ∨ p = 1
  · exact StValid_1 w vg vs vt g p set s hg hs ht hp
  · have h0 : (p != 0) = true := by simp; omega
    have h1 : (p != 1) = true := by simp; omega
    obtain ⟨v0, v1, v2, rfl, i0, i1, i2⟩ := hg
    obtain ⟨a0, c0, rfl⟩ := i0.shape
    clear i0 i1 i2 hs ht hp
    go_enter Try.func13, Try.ntmps13
    go_wp2
    go_ret
    exact ⟨ret_bool (stB_false (.inl (by rw [h0, h1]; rfl))).symm, (by repeat (first | exact Below.refl _ _ | assumption | (refine belA ?_ _) | (refine belD ?_ _)))⟩

end Go.Proofs.Ytkbiopjinegckaa
