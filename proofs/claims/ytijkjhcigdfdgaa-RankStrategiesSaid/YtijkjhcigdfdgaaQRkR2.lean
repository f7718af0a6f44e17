/- The reference's least measure along another one. -/
import Derived.Test.YtijkjhcigdfdgaaQRkR1
namespace Go.Proofs.Ytijkjhcigdfdgaa
open Go.RowKit

theorem below_set {w W : World} {g j : Nat} {u : Value} (h : Below w.heap.size w W) (hg : w.heap.size ≤ g) : Below w.heap.size w (W.setCell ⟨g, j, none⟩ u) :=
  h.trans ((Only.set (S := fun q => q = g) g j u rfl).below _ (fun q e => by have e : q = g := e; omega) h.size)

set_option maxRecDepth 100000 in
set_option maxHeartbeats 4000000 in
theorem ralong_c (w : World) (vb vm : Value) (mo : List Nat) (m : List Int) (p : Nat) (hb : IsInts w vb (castM mo)) (hm : IsInts w vm m) (hM : meB mo m = true) (hp : partN p ≤ mo.length) (hl : mo.length ≤ 15001) (hmb : ∀ k, mo.getD k 0 ≤ 3000) (hp2 : p ≤ 30001) :
    Calls Try.prog 71 #[vb, vm, .int .i64 (p : Int)] w (NewSet (digL mo (alongN mo (cdN mo m) p)) w) := by
  obtain ⟨am, cm, rfl⟩ := hm.shape
  obtain ⟨bm, om, dm, nm, fm⟩ := hm.dat
  obtain ⟨ab, cb, rfl⟩ := hb.shape
  obtain ⟨bb, ob, db, nb, fb⟩ := hb.dat
  rw [castM_len] at db nb fb ⊢
  by_cases h0 : m = []
  · have HE : Hid (digL mo (alongN mo (cdN mo m) p) = []) := by
      show _ = _
      rw [(cd_top hM).2 h0, along_top]; unfold digL; rw [if_pos rfl]
    have t1 : ((m.length : Int) == 0) = true := by rw [h0]; rfl
    clear h0 hm hb dm fm db fb hM hmb
    generalize digL mo (alongN mo (cdN mo m) p) = res at *
    generalize m.length = lm at *
    go_enter Try.func71, Try.ntmps71
    go_wp2_with (go_at_call 24; refine (Top_c _ _ _ _ _ t1).mono ?_; rintro e w' ⟨rfl, rfl⟩)
    go_ret
    exact ⟨_, rfl, by rw [HE.out]; exact OI_nil _ _, Below.refl _ _⟩
  have hpos : 0 < m.length := List.length_pos_iff.2 h0
  have t1 : ((m.length : Int) == 0) = false := by rw [beq_eq_false_iff_ne]; omega
  have hct : cdN mo m < topN mo := by
    have h1 := cd_le hM
    have h2 : cdN mo m ≠ topN mo := fun e => h0 ((cd_top hM).1 e)
    omega
  have hrg := me_rg hM h0
  have hml : mo.length ≤ m.length := by
    rcases meB_iff.1 hM with h | ⟨h, h'⟩ | ⟨-, h, -⟩
    · exact absurd h h0
    · rw [h]; simp
    · omega
  obtain rfl := dm hpos
  have HZ : Hid (List.replicate (max mo.length 1) 0 = cutL mo m 0) := (cut_zero mo m).symm
  have HSET : Hid (∀ k, (cutL mo m k).set k (m.getD k 0) = cutL mo m (k + 1)) := fun k => by
    by_cases h : k < mo.length
    · first | exact cut_set | exact cut_set h
    · first | exact cut_set | (exfalso; omega)
  have HBACK : Hid (∀ k, (cutL mo m (k + 1)).set k 0 = cutL mo m k) := fun k => cut_back mo m k
  have HLN : Hid (∀ k, (cutL mo m k).length = max mo.length 1) := fun k => cut_len mo m k
  have HAT : Hid (∀ k, k < mo.length → (cutL mo m (k + 1)).getD k 0 = m.getD k 0) := fun k hk => by rw [cut_at (by omega), if_pos (by omega)]
  have HEV : Hid (p % 2 = 0 → cutL mo m (partN p) = digL mo (alongN mo (cdN mo m) p)) := fun h => by rw [cut_is hM h0 hp, along_of hct, h, Nat.add_zero]
  have HOD : Hid (p % 2 = 1 → (cdN mo m / unitN mo (partN p) + 1) * unitN mo (partN p) = alongN mo (cdN mo m) p) := fun h => by rw [along_of hct, h]
  have HUP : Hid (∀ k A, k < mo.length → (cdN mo m / unitN mo (k + 1) + 1) * unitN mo (k + 1) = A → m.getD k 0 < (mo.getD k 0 : Int) → (cutL mo m (k + 1)).set k (m.getD k 0 + 1) = digL mo A) := fun k A hk e hlt => by rw [← e]; exact cut_up hM h0 hk hlt
  have HCA : Hid (∀ k A, k < mo.length → (cdN mo m / unitN mo (k + 1) + 1) * unitN mo (k + 1) = A → m.getD k 0 = (mo.getD k 0 : Int) → (cdN mo m / unitN mo k + 1) * unitN mo k = A) := fun k A hk e hlt => by rw [← e]; exact (cut_carry hM h0 hk hlt).symm
  have HEN : Hid (∀ A, (cdN mo m / unitN mo 0 + 1) * unitN mo 0 = A → digL mo A = []) := fun A e => by rw [← e, cut_end hM h0]; unfold digL; rw [if_pos rfl]
  have HRG : Hid (∀ i, i < mo.length → 0 ≤ m.getD i 0 ∧ m.getD i 0 ≤ (mo.getD i 0 : Int)) := hrg
  have HFM : Hid (∀ j, j < mo.length → w.cell? ⟨bm, om + j, none⟩ = some (.int .i64 (m.getD j 0))) := fun j hj => fm j (by omega)
  have HFB : Hid (∀ j, j < mo.length → w.cell? ⟨bb, ob + j, none⟩ = some (.int .i64 (mo.getD j 0 : Int))) := fun j hj => by rw [fb j hj, castM_get hj]
  have HMB : Hid (∀ k, mo.getD k 0 ≤ 3000) := hmb
  have HDB : Hid (0 < mo.length → ab = some ⟨bb, ob, none⟩) := db
  have hpp : partN p = (p + 1) / 2 := rfl
  have HPP := Lib.hid hpp
  have HZC : Hid (∀ W, Calls Try.prog 57 #[.slice ab mo.length cb] W (NewSet (cutL mo m 0) W)) := fun W => by rw [← HZ.out]; exact zero_c W ab mo.length cb (by omega)
  clear hm hb fm db fb hM hmb h0 hct hrg HZ hpp dm
  obtain ⟨u, hu⟩ : ∃ u : Nat → Nat, ∀ k, u k = (cdN mo m / unitN mo k + 1) * unitN mo k := ⟨_, fun _ => rfl⟩
  simp only [← hu] at HOD HUP HCA HEN
  clear hu
  generalize alongN mo (cdN mo m) p = A at *
  generalize m.length = lm at *
  generalize partN p = q at *
  generalize mo.length = n at *
  obtain ⟨N, hN⟩ : ∃ N, max n 1 = N := ⟨_, rfl⟩
  rw [hN] at HLN
  have hN1 : n ≤ N ∧ 0 < N ∧ N ≤ 15001 := by omega
  have HNN := Lib.hid hN
  clear hN
  go_enter Try.func71, Try.ntmps71
  go_wp2_with (go_at_call 24; refine (Top_c _ _ _ _ _ t1).mono ?_; rintro e w' ⟨rfl, rfl⟩)
  refine (HZC.out _).mono ?_
  rintro e w1 ⟨v7, rfl, hO, hBw⟩
  obtain ⟨g, cap, rfl, hge, hlt⟩ := hO.row (by rw [HLN.out]; omega)
  rw [HLN.out] at hO ⊢
  have HO1 := Lib.hid hO
  have HB1 := Lib.hid hBw
  clear hO hBw hlt
  go_wp2_with fail
  go_loopg [8, 9] q (fun gh l i wr => ∃ (k : Nat) (lz : Int), gh = q - k ∧ l = .int .i64 lz ∧ i = .int .i64 (k : Int) ∧ k ≤ q ∧ Hid (lz = (k : Int) - 1) ∧ Hid (OI wr w.heap.size (.slice (some ⟨g, 0, none⟩) N cap) (cutL mo m k)) ∧ Hid (Below w.heap.size w wr))
  case atStart => exact ⟨0, _, rfl, rfl, rfl, by omega, rfl, HO1, HB1⟩
  case round =>
    obtain ⟨k, lz, hgk, rfl, rfl, hk, HLZ, HO, HB⟩ := hrel
    have HGK := Lib.hid hgk
    clear hgk
    by_cases hlt : k < q
    · as_aux_lemma =>
      have i1 : (k : Int) < (n : Int) := by omega
      have i2 : 2 * (k : Int) + 1 ≤ (p : Int) := by have := HPP.out; omega
      have c1 := cellB HB.out (HFM.out k (by omega))
      have f1 := HO.out.fz (HLN.out k).symm k
      have c2 := HO.out.at' (HLN.out k).symm k (by rw [HLN.out]; omega)
      have i3 : (k : Int) < (lm : Int) := by omega
      have i4 : (k : Int) < (N : Int) := by omega
      have HS := Lib.hid (HSET.out k)
      generalize m.getD k 0 = x at *
      go_wp2
      go_roundg (q - (k + 1))
      case measure => have := HGK.out; omega
      case rel => exact ⟨k + 1, _, rfl, rfl, by go_num, by omega, by show _ = _; omega, by show OI _ _ _ _; rw [← HS.out]; exact HO.out.set (HLN.out _).symm k _, below_set HB.out hge⟩
    · as_aux_lemma =>
      obtain rfl : k = q := by omega
      clear hlt HGK
      by_cases hev : p % 2 = 0
      · have HR : Hid (cutL mo m k = digL mo A) := HEV.out hev
        have m2 : Int.tmod (p : Int) 2 = 0 := by rw [Int.tmod_eq_emod_of_nonneg (by omega)]; omega
        have m3 : (p : Int) % 2 = 0 := by omega
        clear hev
        by_cases hn : k < n
        · have i1 : (k : Int) < (n : Int) := by omega
          have i2 : ¬ 2 * (k : Int) + 1 ≤ (p : Int) := by have := HPP.out; omega
          go_wp2
          go_ret
          exact ⟨_, rfl, by rw [← HR.out]; exact HO.out, HB.out⟩
        · have i1 : ¬ (k : Int) < (n : Int) := by omega
          go_wp2
          go_ret
          exact ⟨_, rfl, by rw [← HR.out]; exact HO.out, HB.out⟩
      · have hod : p % 2 = 1 := by omega
        have HU : Hid (u k = A) := HOD.out hod
        have m2 : Int.tmod (p : Int) 2 = 1 := by rw [Int.tmod_eq_emod_of_nonneg (by omega)]; omega
        have m3 : (p : Int) % 2 = 1 := by omega
        have hk0 : 0 < k := by have := HPP.out; omega
        clear hev hod
        by_cases hn : k < n
        case' pos =>
          have i1 : (k : Int) < (n : Int) := by omega
          have i2 : ¬ 2 * (k : Int) + 1 ≤ (p : Int) := by have := HPP.out; omega
          go_upto_region 12 with (fail)
        case' neg =>
          have i1 : ¬ (k : Int) < (n : Int) := by omega
          go_upto_region 12 with (fail)
        all_goals
          have HWR := Lib.hid HB.out
          obtain ⟨w9, hw9⟩ : ∃ w9, w9 = wr := ⟨_, rfl⟩
          subst hw9
          clear hn m2 m3
          go_wp2_with fail
          go_loopg [10] k (fun gh i wr => ∃ (j : Nat) (iz : Int), j = gh ∧ i = .int .i64 iz ∧ j ≤ k ∧ Hid (iz = (j : Int) - 1) ∧ Hid (u j = A) ∧ Hid (OI wr w.heap.size (.slice (some ⟨g, 0, none⟩) N cap) (cutL mo m j)) ∧ Hid (Below w.heap.size w wr))
          case atStart => exact ⟨k, lz, rfl, rfl, Nat.le_refl _, HLZ, HU, HO, HB⟩
          case round =>
            obtain ⟨j, iz, rfl, rfl, hj, HIZ, HUJ, HOJ, HBJ⟩ := hrel
            clear HU HO HB HWR HLZ
            cases j with
            | zero => as_aux_lemma =>
              obtain rfl : iz = -1 := by have := HIZ.out; omega
              have HR : Hid (digL mo A = []) := HEN.out A HUJ.out
              go_wp2
              go_ret
              exact ⟨_, rfl, by rw [HR.out]; exact OI_nil _ _, HBJ.out⟩
            | succ j => as_aux_lemma =>
              obtain rfl : iz = (j : Int) := by have := HIZ.out; omega
              have hjn : j < n := by omega
              obtain rfl := HDB.out (by omega)
              have c2 := HOJ.out.at' (HLN.out _).symm j (by rw [HLN.out]; omega)
              rw [← getD_lt _ 0 _ (by rw [HLN.out]; omega), HAT.out j hjn] at c2
              have c3 := cellB HBJ.out (HFB.out j hjn)
              have f1 := HOJ.out.fz (HLN.out _).symm j
              have i3 : (j : Int) < (N : Int) := by omega
              have i4 : (j : Int) < (n : Int) := by omega
              have HUP1 := Lib.hid (HUP.out j A hjn HUJ.out)
              have HCA1 := Lib.hid (HCA.out j A hjn HUJ.out)
              have HR1 := HRG.out j hjn
              have HS := Lib.hid (HBACK.out j)
              have hM1 := HMB.out j
              generalize m.getD j 0 = x at *
              generalize mo.getD j 0 = y at *
              by_cases hxy : x < (y : Int)
              · have t5 : decide (x < (y : Int)) = true := decide_eq_true hxy
                have HE := Lib.hid (HUP1.out hxy)
                go_upto_region 15 with (fail)
                go_quiet (fail)
                go_wp2
                go_ret
                exact ⟨_, rfl, by rw [← HE.out]; exact (HOJ.out.set (HLN.out _).symm j _), below_set (HBJ.out.trans (below_draws _ _ _)) hge⟩
              · have t5 : decide (x < (y : Int)) = false := decide_eq_false hxy
                have HE : Hid (u j = A) := HCA1.out (by omega)
                go_upto_region 15 with (fail)
                go_quiet (fail)
                go_wp2
                go_roundg j
                case measure => omega
                case rel => exact ⟨j, _, rfl, rfl, by omega, rfl, HE, by show OI _ _ _ _; rw [← HS.out]; exact HOJ.out.set (HLN.out _).symm j _, below_set (HBJ.out.trans (below_draws _ _ _)) hge⟩

end Go.Proofs.Ytijkjhcigdfdgaa
