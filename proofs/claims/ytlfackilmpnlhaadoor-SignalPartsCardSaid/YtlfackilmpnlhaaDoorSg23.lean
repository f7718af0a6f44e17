/- What the reference's Values computes; the law's values. -/
import Derived.Test.YtlfackilmpnlhaaDoorSgOwn
import Derived.Test.YtlfackilmpnlhaaDoorSg17
import Derived.Deep.LoopGhost
namespace Go.Proofs.YtlfackilmpnlhaaDoor
open Go.RowKit

/-- A list in new memory. -/
def NewI (l : List Int) (w : World) (e : Ending) (w' : World) : Prop := ∃ v, e = .returned v ∧ OI w' w.heap.size v l ∧ Below w.heap.size w w'

def valsI (l : List Sig) (a : Int) : List Int := if 0 ≤ a ∧ a < lettersI l then digL l a else []

theorem digL_take {l : List Sig} (hz : ∀ s ∈ l, sizeB s = true) (a : Int) (k : Nat) (hk : k < l.length) : (digL l a).take (k + 1) = (digL l a).take k ++ [a / prodL (l.take k) % l[k].size] := by
  have hk2 : k < (digL l a).length := by rw [digL_len]; exact hk
  have h := digL_get hz a k hk
  rw [getD_lt _ _ _ hk2] at h
  rw [List.take_succ_eq_append_getElem hk2, h]

theorem OI.base {w : World} {base base' : Nat} {v : Value} {l : List Int} (h : OI w base v l) (hb : base' ≤ base) : OI w base' v l := by
  refine ⟨h.1, ?_⟩
  rcases h.2 with h0 | ⟨g, cap, cur, hv, hg, r⟩
  · exact .inl h0
  · exact .inr ⟨g, cap, cur, hv, Nat.le_trans hb hg, r⟩

theorem OI_empty (w : World) (t : TypeId) (ht : t = 3) : OI (w.alloc (.cells #[] t)) w.heap.size (.slice (some ⟨w.heap.size, 0, none⟩) 0 0) [] := by
  subst ht
  exact ⟨rfl, .inr ⟨w.heap.size, 0, #[], rfl, Nat.le_refl _, World.alloc_heap_new w _, Nat.le_refl _, Nat.zero_le _, rfl, rfl⟩⟩

set_option maxRecDepth 100000 in
set_option maxHeartbeats 4000000 in
theorem RValues_c (w : World) (vl : Value) (l : List Sig) (a : Int) (ha : I64 a) (hl : IsSigs w vl l) :
    Calls Tryd.prog 44 #[vl, .int .i64 a] w (NewI (valsI l a) w) := by
  have hL : Hid (∀ W, Below w.heap.size w W → Calls Tryd.prog 20 #[vl] W (Calm (.int .i64 (lettersI l)) W)) := fun W hW => RLetters_c W vl l (hl.below hW)
  obtain ⟨ao, cap, b, off, rfl, hl⟩ := hl
  have hn := hl.nb
  unfold I64 at ha
  have HV : Hid (0 ≤ a → a < lettersI l → validS l = true) := fun h0 h1 => by
    unfold lettersI at h1
    cases hv : validS l
    · rw [hv] at h1; simp at h1; omega
    · rfl
  have HNO : Hid (¬ (0 ≤ a ∧ a < lettersI l) → valsI l a = []) := fun h => if_neg h
  have HYES : Hid ((0 ≤ a ∧ a < lettersI l) → valsI l a = digL l a) := fun h => if_pos h
  generalize lettersI l = x at *
  by_cases h0 : a < 0
  · have HR := Lib.hid (HNO.out (by omega))
    clear hl
    go_enter Tryd.func44, Tryd.ntmps44
    go_wp2
    go_ret
    exact ⟨_, rfl, by rw [HR.out]; exact OI_nil _ _, Below.refl _ _⟩
  by_cases h1 : x ≤ a
  · have HR := Lib.hid (HNO.out (by omega))
    clear hl
    go_enter Tryd.func44, Tryd.ntmps44
    go_wp2_with fail
    refine (hL.out _ (Below.refl _ _)).mono ?_
    rintro e w1 ⟨rfl, hb⟩
    go_wp2
    go_ret
    exact ⟨_, rfl, by rw [HR.out]; exact OI_nil _ _, hb⟩
  have hv := HV.out (by omega) (by omega)
  have HR := Lib.hid (HYES.out ⟨by omega, by omega⟩)
  obtain ⟨hz, hl1, hl6, -⟩ := valid_sizes hv
  have HZ := Lib.hid hz
  have ha0 : 0 ≤ a := by omega
  have ha9 := ha.2
  clear hz hv HV HYES HNO ha
  go_enter Tryd.func44, Tryd.ntmps44
  go_wp2_with fail
  refine (hL.out _ (Below.refl _ _)).mono ?_
  rintro e w1 ⟨rfl, hb⟩
  have d1 : decide (x ≤ a) = false := decide_eq_false (by omega)
  go_wp2
  have hB0 : Below w.heap.size w (w1.alloc (.cells #[] 3)) := belA hb _
  have hO0 : OI (w1.alloc (.cells #[] 3)) w.heap.size (.slice (some ⟨w1.heap.size, 0, none⟩) 0 0) [] := ((OI_empty w1 _ rfl).base hb.size)
  generalize (w1.alloc (.cells #[] 3)) = w2 at *
  go_loopg [1, 5, 6] l.length (fun gh va vo i wr => ∃ k : Nat, gh = l.length - k ∧ i = .int .i64 k ∧ va = .int .i64 (a / prodL (l.take k)) ∧ k ≤ l.length ∧ OI wr w.heap.size vo ((digL l a).take k) ∧ Below w.heap.size w wr)
  case atStart => exact ⟨0, rfl, rfl, by simp [prodL], by omega, by simpa using hO0, hB0⟩
  case round =>
    obtain ⟨k, hgk, rfl, rfl, hk, hO, hB⟩ := hrel
    have HG := Lib.hid hgk
    clear hgk
    by_cases hlt : k < l.length
    · obtain rfl := hl.ad (by omega)
      have c2 := cellB hB (hl.nz k hlt)
      obtain ⟨hs1, hs2⟩ := sizes_posV HZ.out _ (List.getElem_mem hlt)
      obtain ⟨hp1, hp2⟩ := prodL_takeV HZ.out hl6 k
      have HT := Lib.hid (digL_take HZ.out a k hlt)
      have HP := Lib.hid (prodL_take hlt)
      have HE : Hid (a / prodL (l.take k) / l[k].size = a / (prodL (l.take k) * l[k].size)) := ediv_prod (by omega)
      have hq0 : 0 ≤ a / prodL (l.take k) := Int.ediv_nonneg ha0 (by omega)
      have hq1 : a / prodL (l.take k) ≤ a := Int.ediv_le_self _ ha0
      have hr0 := Int.emod_nonneg (a / prodL (l.take k)) (show l[k].size ≠ 0 by omega)
      have hr1 := Int.emod_lt_of_pos (a / prodL (l.take k)) (show 0 < l[k].size by omega)
      have hd0 := Int.ediv_nonneg hq0 (show 0 ≤ l[k].size by omega)
      have hd1 := Int.ediv_le_self l[k].size hq0
      have ht1 : (a / prodL (l.take k)).tmod l[k].size = a / prodL (l.take k) % l[k].size := Int.tmod_eq_emod_of_nonneg hq0
      have ht2 : (a / prodL (l.take k)).tdiv l[k].size = a / prodL (l.take k) / l[k].size := Int.tdiv_eq_ediv_of_nonneg hq0
      have hz0 : ¬ l[k].size = 0 := by omega
      have hz1 : (l[k].size == 0) = false := by simp; omega
      have hlen : ((digL l a).take k).length < 17592186043904 := by rw [List.length_take]; omega
      have HO := Lib.hid hO
      have HC := Lib.hid (hl.nz k hlt)
      have hBs := hB.size
      have hbk : b < wr.heap.size := World.block_lt_of_cell? wr _ c2
      clear hO hp1 hp2
      generalize a / prodL (l.take k) / l[k].size = qt at *
      generalize a / prodL (l.take k) % l[k].size = rm at *
      generalize a / prodL (l.take k) = aa at *
      generalize hzz : l[k].size = z at *
      have HZZ := Lib.hid hzz
      clear hzz
      go_wp2_with (at_builtin; refine app_int rfl _ _ rm rfl w.heap.size _ _ HO.out rfl _ (by simp) rfl hlen hBs ?_; intro v' w' hown' hg hmv; have hB2 := hB.grown hg hBs HO.out.ge; have c3 := cellB hB2 HC.out)
      go_roundg (l.length - (k + 1))
      case measure => have := HG.out; omega
      case rel => exact ⟨k + 1, rfl, by go_num, by rw [HP.out, ← HE.out], by omega, by rw [HT.out]; exact hown', hB2⟩
    · obtain rfl : k = l.length := by omega
      go_wp2
      go_ret
      exact ⟨_, rfl, by rw [HR.out]; rwa [List.take_of_length_le (by rw [digL_len]; exact Nat.le_refl _)] at hO, hB⟩

theorem dig_range {l : List Sig} (hz : ∀ s ∈ l, sizeB s = true) (a : Int) : ∀ x ∈ digL l a, 0 ≤ x ∧ x ≤ 3 := by
  intro x hx
  obtain ⟨k, hk, rfl⟩ := List.getElem_of_mem hx
  have hk2 : k < l.length := by rwa [digL_len] at hk
  have h := digL_get hz a k hk2
  rw [getD_lt _ _ _ hk] at h
  have hs := sizes_posV hz _ (List.getElem_mem hk2)
  rw [h]
  have h1 := Int.emod_nonneg (a / prodL (l.take k)) (show l[k].size ≠ 0 by omega)
  have h2 := Int.emod_lt_of_pos (a / prodL (l.take k)) (show 0 < l[k].size by omega)
  omega

theorem vals_range {l : List Sig} (a : Int) : ∀ x ∈ valsI l a, 0 ≤ x ∧ x ≤ 3 := by
  unfold valsI
  split
  · rename_i h
    have hv : validS l = true := by
      have h1 := h.2
      unfold lettersI at h1
      cases hv : validS l
      · rw [hv] at h1; simp at h1; omega
      · rfl
    exact dig_range (valid_sizes hv).1 a
  · simp

theorem vals_len_le {l : List Sig} (a : Int) : (valsI l a).length ≤ 6 := by
  unfold valsI
  split
  · rename_i h
    have hv : validS l = true := by
      have h1 := h.2
      unfold lettersI at h1
      cases hv : validS l
      · rw [hv] at h1; simp at h1; omega
      · rfl
    rw [digL_len]; exact (valid_sizes hv).2.2.1
  · simp

theorem NewI.ints {l : List Int} {w w' : World} {v : Value} (h : OI w' w.heap.size v l) (hl : l.length ≤ 6) (hr : ∀ x ∈ l, 0 ≤ x ∧ x ≤ 3) : IsInts w' v l :=
  h.is (by unfold maxN; omega) (fun x hx => by have := hr x hx; unfold I64; omega)

theorem value_vals (l : List Sig) (a : Int) (i : Nat) : valueI l a i = if i < (valsI l a).length then (valsI l a).getD i 0 else 0 := by
  unfold valueI valsI
  by_cases h : 0 ≤ a ∧ a < lettersI l
  · have hv : validS l = true := by
      have h1 := h.2
      unfold lettersI at h1
      cases hv : validS l
      · rw [hv] at h1; simp at h1; omega
      · rfl
    rw [if_pos h, digL_len]
    by_cases hi : i < l.length
    · rw [if_pos ⟨h.1, h.2, by omega, by omega⟩, if_pos hi, digL_get (valid_sizes hv).1 a i hi, Int.toNat_natCast, getD_lt _ _ _ hi]
    · rw [if_neg (by omega), if_neg hi]
  · rw [if_neg h, if_neg (fun h2 => h ⟨h2.1, h2.2.1⟩)]; simp

set_option maxRecDepth 100000 in
set_option maxHeartbeats 4000000 in
theorem RValue_c (w : World) (vl : Value) (l : List Sig) (a i : Int) (ha : I64 a) (hi : I64 i) (hl : IsSigs w vl l) :
    Calls Tryd.prog 26 #[vl, .int .i64 a, .int .i64 i] w (Calm (.int .i64 (valueI l a i)) w) := by
  have H := Lib.hid (RValues_c w vl l a ha hl)
  obtain ⟨ao, cap, b, off, rfl, hl⟩ := hl
  have HVV := Lib.hid (value_vals l a)
  have HNEG : Hid (i < 0 → valueI l a i = 0) := fun h => if_neg (by omega)
  have HLEN := Lib.hid (vals_len_le (l := l) a)
  have HRG := Lib.hid (vals_range (l := l) a)
  unfold I64 at hi
  clear hl ha
  generalize valsI l a = vs at *
  generalize hf : valueI l a = f at *
  clear hf
  rcases (by omega : i < 0 ∨ (0 ≤ i ∧ (vs.length : Int) ≤ i) ∨ (0 ≤ i ∧ i < vs.length)) with h0 | ⟨h0, h1⟩ | ⟨h0, h1⟩
  · have HR := Lib.hid (HNEG.out h0)
    go_enter Tryd.func26, Tryd.ntmps26
    go_wp2_with fail
    refine H.out.mono ?_
    rintro e w1 ⟨v, rfl, hO, hb⟩
    obtain ⟨av, cv, rfl⟩ := hO.slice
    go_wp2
    go_ret
    exact ⟨ret_int (by rw [HR.out]), hb⟩
  · have HR : Hid (f i = 0) := by
      show _ = _
      obtain ⟨j, rfl⟩ : ∃ j : Nat, i = j := ⟨i.toNat, by omega⟩
      rw [HVV.out, if_neg (by omega)]
    have d0 : ¬ i < 0 := by omega
    go_enter Tryd.func26, Tryd.ntmps26
    go_wp2_with fail
    refine H.out.mono ?_
    rintro e w1 ⟨v, rfl, hO, hb⟩
    obtain ⟨av, cv, rfl⟩ := hO.slice
    go_wp2
    go_ret
    exact ⟨ret_int (by rw [HR.out]), hb⟩
  · obtain ⟨j, rfl⟩ : ∃ j : Nat, i = j := ⟨i.toNat, by omega⟩
    have hj : j < vs.length := by omega
    have HR : Hid (f (j : Int) = vs[j]) := by
      show _ = _
      rw [HVV.out, if_pos hj, getD_lt _ _ _ hj]
    go_enter Tryd.func26, Tryd.ntmps26
    go_wp2_with fail
    refine H.out.mono ?_
    rintro e w1 ⟨v, rfl, hO, hb⟩
    obtain ⟨⟨av, cv, bv, ov, rfl, hvv⟩, -⟩ := NewI.ints hO HLEN.out HRG.out
    obtain rfl := hvv.ad (by omega)
    have c3 := hvv.el j hj
    unfold ivF at c3
    rw [getD_lt _ _ _ hj] at c3
    go_wp2
    go_ret
    exact ⟨ret_int (by rw [HR.out]), hb⟩

end Go.Proofs.YtlfackilmpnlhaaDoor
