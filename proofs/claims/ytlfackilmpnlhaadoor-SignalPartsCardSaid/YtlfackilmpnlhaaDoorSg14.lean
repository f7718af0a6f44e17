/- What the reference's Join computes: the walk. -/
import Derived.Test.YtlfackilmpnlhaaDoorSg13
namespace Go.Proofs.YtlfackilmpnlhaaDoor
open Go.RowKit

theorem mul_bounds {p v z : Int} (hp1 : 1 ≤ p) (hp2 : p ≤ 4096) (h0 : 0 ≤ v) (h1 : v < z) (hz : z ≤ 4) : 0 ≤ p * v ∧ p * v ≤ 16384 := (mk_bounds hp1 hp2 h0 h1 hz).1

set_option maxRecDepth 100000 in
set_option maxHeartbeats 4000000 in
theorem RJoin_c (w : World) (vl : Value) (l : List Sig) (i o : Int) (hi : I64 i) (ho : I64 o) (hl : IsSigs w vl l) :
    Calls Tryd.prog 32 #[vl, .int .i64 i, .int .i64 o] w (Calm (.int .i64 (joinI l i o)) w) := by
  have hI : Hid (∀ W, Below w.heap.size w W → Calls Tryd.prog 22 #[vl] W (Calm (.int .i64 (inputsI l)) W)) := fun W hW => RInputs_c W vl l (hl.below hW)
  have hO : Hid (∀ W, Below w.heap.size w W → Calls Tryd.prog 24 #[vl] W (Calm (.int .i64 (outputsI l)) W)) := fun W hW => ROutputs_c W vl l (hl.below hW)
  obtain ⟨ao, cap, b, off, rfl, hl⟩ := hl
  have hn := hl.nb
  unfold I64 at hi ho
  have HNO : Hid (¬ (0 ≤ i ∧ i < inputsI l ∧ 0 ≤ o ∧ o < outputsI l) → joinI l i o = 0) := fun h => if_neg h
  have HYES : Hid ((0 ≤ i ∧ i < inputsI l ∧ 0 ≤ o ∧ o < outputsI l) → joinI l i o = joinL l i o) := fun h => if_pos h
  have HVAL : Hid (0 ≤ i ∧ i < inputsI l → validS l = true) := fun h => by
    unfold inputsI at h
    cases hv : validS l
    · rw [hv] at h; simp at h; omega
    · rfl
  generalize inputsI l = x at *
  generalize outputsI l = y at *
  by_cases h0 : i < 0
  · have HR := Lib.hid (HNO.out (by omega))
    clear hl
    go_enter Tryd.func32, Tryd.ntmps32
    go_wp2
    go_ret
    exact ⟨ret_int (by rw [HR.out]), Below.refl _ _⟩
  by_cases h1 : x ≤ i
  · have HR := Lib.hid (HNO.out (by omega))
    clear hl
    go_enter Tryd.func32, Tryd.ntmps32
    go_wp2_with fail
    refine (hI.out _ (Below.refl _ _)).mono ?_
    rintro e w1 ⟨rfl, hb⟩
    go_wp2
    go_ret
    exact ⟨ret_int (by rw [HR.out]), hb⟩
  by_cases h2 : o < 0
  · have HR := Lib.hid (HNO.out (by omega))
    clear hl
    go_enter Tryd.func32, Tryd.ntmps32
    go_wp2_with fail
    refine (hI.out _ (Below.refl _ _)).mono ?_
    rintro e w1 ⟨rfl, hb⟩
    go_wp2
    go_ret
    exact ⟨ret_int (by rw [HR.out]), hb⟩
  by_cases h3 : y ≤ o
  · have HR := Lib.hid (HNO.out (by omega))
    clear hl
    go_enter Tryd.func32, Tryd.ntmps32
    go_wp2_with fail
    refine (hI.out _ (Below.refl _ _)).mono ?_
    rintro e w1 ⟨rfl, hb⟩
    go_wp2_with fail
    refine (hO.out _ hb).mono ?_
    rintro e w2 ⟨rfl, hb2⟩
    go_wp2
    go_ret
    exact ⟨ret_int (by rw [HR.out]), hb.trans (hb2.mono hb.size)⟩
  have hv := HVAL.out ⟨by omega, by omega⟩
  have HR := Lib.hid (HYES.out ⟨by omega, by omega, by omega, by omega⟩)
  obtain ⟨hz, hl1, hl6, -⟩ := valid_sizes hv
  have HZ := Lib.hid hz
  have hi0 : 0 ≤ i := by omega
  have ho0 : 0 ≤ o := by omega
  have hi9 := hi.2
  have ho9 := ho.2
  clear hz hv HVAL HYES HNO hi ho
  have HST : Hid (JoinAt l 0 0 i o (joinL l i o)) := ⟨by simp [prodL], by omega, by simp [prodL]⟩
  generalize joinL l i o = J at *
  go_enter Tryd.func32, Tryd.ntmps32
  go_wp2_with fail
  refine (hI.out _ (Below.refl _ _)).mono ?_
  rintro e w1 ⟨rfl, hb⟩
  go_wp2_with fail
  refine (hO.out _ hb).mono ?_
  rintro e w2 ⟨rfl, hb2⟩
  have hB : Below w.heap.size w w2 := hb.trans (hb2.mono hb.size)
  have HM : Hid (9223372036854775808 > i) := by show _ > _; omega
  clear hb hb2
  go_wp2
  go_loop [1, 2, 7, 8, 9] (fun vi vo n p j => ∃ (k : Nat) (ii oo nn : Int), j = .int .i64 k ∧ vi = .int .i64 ii ∧ vo = .int .i64 oo ∧ n = .int .i64 nn ∧ p = .int .i64 (prodL (l.take k)) ∧ k ≤ l.length ∧ 0 ≤ ii ∧ ii < 9223372036854775808 ∧ 0 ≤ oo ∧ oo < 9223372036854775808 ∧ Hid (JoinAt l k nn ii oo J))
    (fun _ _ _ _ j => l.length - (intOf j).toNat)
  case atStart => exact ⟨0, i, o, 0, rfl, rfl, rfl, rfl, rfl, by omega, by omega, by omega, by omega, by omega, HST⟩
  case round =>
    obtain ⟨k, ii, oo, nn, rfl, rfl, rfl, rfl, rfl, hk, hii, hii2, hoo, hoo2, HJ⟩ := hrel
    by_cases hlt : k < l.length
    · obtain rfl := hl.ad (by omega)
      have c1 := cellB hB (hl.ni k hlt)
      have c2 := cellB hB (hl.nz k hlt)
      obtain ⟨hp1, hp2⟩ := prodL_bd (l.take k) (fun s hs => HZ.out s (List.mem_of_mem_take hs))
      have hp3 : prodL (l.take k) ≤ 4096 := Int.le_trans hp2 (pow4 (by rw [List.length_take]; omega))
      have hsz := HZ.out _ (List.getElem_mem hlt)
      simp only [sizeB, Bool.and_eq_true, decide_eq_true_eq] at hsz
      obtain ⟨hs1, hs2⟩ := hsz
      have hpw := prod_wrap' hp1 hp3 hs1 hs2
      have HT := Lib.hid (prodL_take hlt)
      have hn0 : 0 ≤ nn := HJ.out.2.1
      have hn1 : nn < prodL (l.take k) := HJ.out.2.2
      have HNI : Hid (l[k].inp = true → JoinAt l (k + 1) (nn + prodL (l.take k) * (ii % l[k].size)) (ii / l[k].size) oo J) := fun h => HJ.out.next_in hlt h hs1 hp1
      have HNO : Hid (l[k].inp = false → JoinAt l (k + 1) (nn + prodL (l.take k) * (oo % l[k].size)) ii (oo / l[k].size) J) := fun h => HJ.out.next_out hlt h hs1 hp1
      clear hp2
      generalize prodL (l.take k) = pp at *
      generalize l[k].size = z at *
      have hz0 : (z == 0) = false := by simp; omega
      cases hq : l[k].inp
      · have HN2 := Lib.hid (HNO.out hq)
        have hm0 := Int.emod_nonneg oo (show z ≠ 0 by omega)
        have hm1 := Int.emod_lt_of_pos oo (show 0 < z by omega)
        have hd0 := Int.ediv_nonneg hoo (show 0 ≤ z by omega)
        have hd1 := Int.ediv_le_self z hoo
        have hb3 := mk_bounds hp1 hp3 hm0 hm1 hs2
        have ht1 : oo.tmod z = oo % z := Int.tmod_eq_emod_of_nonneg hoo
        have ht2 : oo.tdiv z = oo / z := Int.tdiv_eq_ediv_of_nonneg hoo
        generalize oo % z = rm at *
        generalize oo / z = qt at *
        obtain ⟨⟨hm2, hm3⟩, hmw⟩ := hb3
        go_wp2
        go_round
        case rel => exact ⟨k + 1, ii, qt, _, by go_num, rfl, by first | rfl | go_num, rfl, by rw [HT.out], by omega, hii, hii2, by omega, by omega, HN2.out⟩
        case measure => simp [intOf]; omega
      · have HN2 := Lib.hid (HNI.out hq)
        have hm0 := Int.emod_nonneg ii (show z ≠ 0 by omega)
        have hm1 := Int.emod_lt_of_pos ii (show 0 < z by omega)
        have hd0 := Int.ediv_nonneg hii (show 0 ≤ z by omega)
        have hd1 := Int.ediv_le_self z hii
        have hb3 := mk_bounds hp1 hp3 hm0 hm1 hs2
        have ht1 : ii.tmod z = ii % z := Int.tmod_eq_emod_of_nonneg hii
        have ht2 : ii.tdiv z = ii / z := Int.tdiv_eq_ediv_of_nonneg hii
        generalize ii % z = rm at *
        generalize ii / z = qt at *
        obtain ⟨⟨hm2, hm3⟩, hmw⟩ := hb3
        go_wp2
        go_round
        case rel => exact ⟨k + 1, qt, oo, _, by go_num, by first | rfl | go_num, rfl, rfl, by rw [HT.out], by omega, by omega, by omega, hoo, hoo2, HN2.out⟩
        case measure => simp [intOf]; omega
    · obtain rfl : k = l.length := by omega
      have hJ : J = nn := by
        have := HJ.out.1
        rw [List.drop_length] at this
        simp only [joinL] at this
        omega
      have HJ2 := Lib.hid hJ
      clear hJ
      go_wp2
      go_ret
      exact ⟨ret_int (by rw [HR.out, HJ2.out]), hB⟩

end Go.Proofs.YtlfackilmpnlhaaDoor
