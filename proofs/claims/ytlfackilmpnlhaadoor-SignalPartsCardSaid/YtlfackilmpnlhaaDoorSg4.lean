/- What the reference's Valid computes. -/
import Derived.Test.YtlfackilmpnlhaaDoorSg3
namespace Go.Proofs.YtlfackilmpnlhaaDoor
open Go.RowKit

theorem findF_ge (s : ByteArray) : ∀ (l : List Sig) (k : Nat), findF s l k = -1 ∨ (k : Int) ≤ findF s l k
  | [], _ => .inl rfl
  | x :: r, k => by
    unfold findF
    split
    · exact .inr (Int.le_refl _)
    · rcases findF_ge s r (k + 1) with h | h
      · exact .inl h
      · exact .inr (by omega)

theorem findF_first {l : List Sig} {s : ByteArray} : ∀ (i k : Nat) (h : i < l.length), l[i].name.toList = s.toList → (∀ j (hj : j < i), l[j].name.toList ≠ s.toList) → findF s l k = ((k + i : Nat) : Int) := by
  induction l with
  | nil => intro i k h; simp at h
  | cons x r ih =>
    intro i k h he hn
    unfold findF
    cases i with
    | zero => rw [if_pos (by simpa using he)]; simp
    | succ i =>
      rw [if_neg (by simpa using hn 0 (by omega)), ih i (k + 1) (by simpa using h) (by simpa using he) (fun j hj => by simpa using hn (j + 1) (by omega))]
      congr 1; omega

theorem findF_some {l : List Sig} {s : ByteArray} : ∀ (k : Nat), findF s l k ≠ -1 → ∃ i, ∃ h : i < l.length, l[i].name.toList = s.toList ∧ (∀ j (hj : j < i), l[j].name.toList ≠ s.toList) ∧ findF s l k = ((k + i : Nat) : Int) := by
  induction l with
  | nil => intro k h; exact absurd rfl h
  | cons x r ih =>
    intro k h
    unfold findF at h ⊢
    by_cases hx : x.name.toList = s.toList
    · rw [if_pos hx]
      exact ⟨0, by simp, by simpa using hx, fun j hj => absurd hj (by omega), by simp⟩
    · rw [if_neg hx] at h ⊢
      obtain ⟨i, hi, h1, h2, h3⟩ := ih (k + 1) h
      refine ⟨i + 1, by simp; exact hi, by simpa using h1, fun j hj => ?_, by rw [h3]; congr 1; omega⟩
      cases j with
      | zero => simpa using hx
      | succ j => simpa using h2 j (by omega)

/-- The first signal of a name is at its own place just if no earlier one bears it. -/
theorem find_new {l : List Sig} {i : Nat} (h : i < l.length) : (findI l l[i].name = (i : Int)) ↔ newB l i = true := by
  have e : newB l i = true ↔ ∀ j, ∀ hj : j < i, (l[j]'(by omega)).name.toList ≠ l[i].name.toList := by
    simp only [newB, List.all_eq_true, List.mem_range, Bool.not_eq_true', beq_eq_false_iff_ne]
    constructor
    · intro k j hj
      have := k j hj
      rwa [getD_lt _ _ _ (show j < l.length by omega), getD_lt _ _ _ h] at this
    · intro k j hj
      rw [getD_lt _ _ _ (show j < l.length by omega), getD_lt _ _ _ h]
      exact k j hj
  rw [e]
  constructor
  · intro hf j hj
    obtain ⟨i', hi', h1, h2, h3⟩ := findF_some (l := l) (s := l[i].name) 0 (by unfold findI at hf; omega)
    unfold findI at hf
    obtain rfl : i' = i := by omega
    exact h2 j hj
  · intro hn
    have := findF_first (l := l) (s := l[i].name) i 0 h rfl hn
    unfold findI
    rw [this]; simp

set_option maxRecDepth 100000 in
set_option maxHeartbeats 4000000 in
theorem RSValid_c (w : World) (vl : Value) (l : List Sig) (hl : IsSigs w vl l) :
    Calls Tryd.prog 14 #[vl] w (Calm (.bool (validS l)) w) := by
  have hlx := hl
  obtain ⟨ao, cap, b, off, rfl, hl⟩ := hl
  have hn := hl.nb
  by_cases h1 : (l.length : Int) < 1
  · go_enter Tryd.func14, Tryd.ntmps14
    go_wp2
    go_ret
    exact ⟨ret_bool (by simp [validS]; omega), Below.refl _ _⟩
  have h3 : (1 : Int) ≤ l.length := by omega
  by_cases h2 : (6 : Int) < l.length
  · clear h1
    go_enter Tryd.func14, Tryd.ntmps14
    go_wp2
    go_ret
    exact ⟨ret_bool (by simp [validS]; omega), Below.refl _ _⟩
  have h4 : (l.length : Int) ≤ 6 := by omega
  have HSN : Hid (∀ j (h : j < l.length), l[j].name.size ≤ maxN) := fun j h => hl.sn _ (List.getElem_mem h)
  have HV : Hid (validS l = (allB l l.length && decide (prodL l ≤ 64))) := by
    show _ = _
    rw [validS, decide_eq_true (show 1 ≤ l.length by omega), decide_eq_true (show l.length ≤ 6 by omega)]; rfl
  clear h1 h2
  go_enter Tryd.func14, Tryd.ntmps14
  go_wp2
  go_loopg [2, 3, 4] l.length (fun gh r pr i wr => ∃ k : Nat, gh = l.length - k ∧ i = .int .i64 k ∧ r = .bool false ∧ pr = .int .i64 (prodL (l.take k)) ∧ k ≤ l.length ∧ Hid (allB l k = true) ∧ Below w.heap.size w wr)
  case atStart => exact ⟨0, rfl, rfl, rfl, rfl, by omega, rfl, Below.refl _ _⟩
  case round =>
    obtain ⟨k, hgk, rfl, rfl, rfl, hk, HE, hB⟩ := hrel
    have HG := Lib.hid hgk
    clear hgk
    by_cases hlt : k < l.length
    · obtain rfl := hl.ad (by omega)
      have c0 := cellB hB (hl.nn k hlt)
      have c2 := cellB hB (hl.nz k hlt)
      have hz := hl.sz _ (List.getElem_mem hlt)
      have A : Hid (l.getD k sig0 = l[k]) := getD_lt _ _ _ hlt
      unfold I64 at hz
      have HB := Lib.hid hB
      clear hB
      have HFN : Hid (∀ c, sigB l k = c → c = false → false = validS l) := fun c h1 h2 => by rw [HV.out, allB_false hlt (h1.trans h2)]; rfl
      cases hq : nameB l[k].name
      · go_wp2_with fail
        refine (RName_c _ _ (HSN.out k hlt)).mono ?_
        rintro e w2 ⟨rfl, hb2⟩
        rw [hq]
        go_wp2
        go_ret
        exact ⟨ret_bool (HFN.out _ (by rw [sigB, A.out, hq]; rfl) rfl), HB.out.trans (hb2.mono HB.out.size)⟩
      · have HQ := Lib.hid hq
        clear hq
        go_wp2_with fail
        refine (RName_c _ _ (HSN.out k hlt)).mono ?_
        rintro e w2 ⟨rfl, hb2⟩
        rw [HQ.out]
        have hB2 := HB.out.trans (hb2.mono HB.out.size)
        have d0 := cellB hb2 c0
        have d2 := cellB hb2 c2
        clear c0 c2 hb2
        go_wp2_with fail
        refine (RFind_c _ _ l l[k].name (hlx.below hB2)).mono ?_
        rintro e w2 ⟨rfl, rfl⟩
        cases hnw : newB l k
        · have hne : (findI l l[k].name != (k : Int)) = true := by
            rw [bne_iff_ne]; intro h; rw [(find_new hlt).1 h] at hnw; cases hnw
          have HF := Lib.hid <| HFN.out _ (show sigB l k = false by rw [sigB, A.out, HQ.out, hnw]; simp) rfl
          generalize findI l l[k].name = fi at *
          clear hnw
          go_wp2
          go_ret
          exact ⟨ret_bool HF.out, hB2⟩
        · have hne : (findI l l[k].name != (k : Int)) = false := by
            rw [(find_new hlt).2 hnw]; simp
          generalize findI l l[k].name = fi at *
          have HNW := Lib.hid hnw
          clear hnw
          by_cases hs : 2 ≤ l[k].size ∧ l[k].size ≤ 4
          case neg =>
            have HF := Lib.hid <| HFN.out _ (show sigB l k = false by
              have : sizeB l[k] = false := by rw [← Bool.not_eq_true]; simp only [sizeB, Bool.and_eq_true, decide_eq_true_eq]; exact hs
              rw [sigB, A.out, this]; simp) rfl
            rcases (by omega : l[k].size < 2 ∨ (2 ≤ l[k].size ∧ 4 < l[k].size)) with hs2 | hs2
            all_goals
              clear hs
              go_wp2
              go_ret
              exact ⟨ret_bool HF.out, hB2⟩
          have hsB : sizeB l[k] = true := by simp only [sizeB, Bool.and_eq_true, decide_eq_true_eq]; exact hs
          obtain ⟨⟨hp1, hp2⟩, hpw⟩ := prod_step HE.out hlt (by omega) hsB
          have HPW := Lib.hid hpw
          have HSB := Lib.hid hsB
          obtain ⟨hs1, hs2⟩ := hs
          clear hpw hsB
          generalize prodL (l.take k) = pr at *
          have hpw := HPW.out
          go_wp2
          go_roundg (l.length - (k + 1))
          case measure => have := HG.out; omega
          case rel => exact ⟨k + 1, rfl, by go_num, rfl, by first | rw [HPW.out] | rfl, by omega, by show _ = _; rw [allB_succ, HE.out, sigB, A.out, HQ.out, HSB.out, HNW.out]; rfl, hB2⟩
    · obtain rfl : k = l.length := by omega
      rw [List.take_length]
      go_wp2
      go_ret
      exact ⟨ret_bool (by rw [HV.out, HE.out]; rfl), hB⟩

end Go.Proofs.YtlfackilmpnlhaaDoor
