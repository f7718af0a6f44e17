/- The law ReduceLeast: its walk. -/
import Derived.Test.YtdkpdpcecjcmcaaRdH2
import Derived.Test.YtdkpdpcecjcmcaaRdD2
namespace Go.Proofs.Ytdkpdpcecjcmcaa
open Go.RowKit

/-- Whether a state differs from all of the first x states. -/
noncomputable def newQ (a : Au) (K i x : Nat) : Bool := (List.range x).all fun j => difB a K i j
theorem newQ_succ (a : Au) (K i x : Nat) : newQ a K i (x + 1) = (newQ a K i x && difB a K i x) := by
  unfold newQ
  rw [List.range_succ, List.all_append]
  simp
theorem dif_iff {a : Au} {K i j : Nat} : difB a K i j = true ↔ ¬ ∀ d, eqN a K d i j := by
  constructor
  · intro h he
    rw [difB_false he] at h
    exact absurd h (by simp)
  · exact difB_true
theorem newQ_true {a : Au} {K i x : Nat} (h : newQ a K i x = true) : ∀ j, j < x → ¬ ∀ d, eqN a K d i j := fun j hj => by
  unfold newQ at h
  rw [List.all_eq_true] at h
  exact dif_iff.1 (h j (List.mem_range.2 hj))
theorem newQ_false {a : Au} {K i x : Nat} (h : newQ a K i x = false) : ∃ j, j < x ∧ ∀ d, eqN a K d i j := by
  unfold newQ at h
  rw [List.all_eq_false] at h
  obtain ⟨j, hj, h2⟩ := h
  refine ⟨j, List.mem_range.1 hj, ?_⟩
  by_cases he : ∀ d, eqN a K d i j
  · exact he
  · exact absurd (difB_true he) h2

set_option maxRecDepth 100000 in
set_option maxHeartbeats 8000000 in
theorem Least_walk (w : World) (v : Value) (a : Au) (ha : IsAuto w v a) :
    Calls Try.prog 6 #[v] w (Calm (.bool true) w) := by
  obtain ⟨p2, q2, p3, q3, rfl⟩ := ha.shape
  go_enter Try.func6, Try.ntmps6
  go_upto_region 1 with (fail)
  obtain ⟨hx, hb, hB⟩ := box_new (w0 := w) (Below.refl _ _) (Nat.le_refl _) #[.int .i64 a.letters, .int .i64 a.start, .slice p2 a.next.length q2, .slice p3 a.prio.length q3] 24
  replace ha := ha.below hb
  generalize w.alloc (.cells #[.int .i64 a.letters, .int .i64 a.start, .slice p2 a.next.length q2, .slice p3 a.prio.length q3] 24) = w1 at *
  have HE : Hid (∀ W, Below w1.heap.size w1 W → Calm (.bool true) w (.returned (.bool true)) W) := fun W h => ⟨rfl, hB.trans (h.mono hB.size)⟩
  clear hb hB
  generalize w.heap.size = zhx at *
  go_wp2_with fail
  refine (head_c _).mono ?_
  rintro e w2 ⟨rfl, hb⟩
  replace hx := (hb.block _ (Array.getElem?_eq_some_iff.1 hx).1).trans hx
  replace ha := ha.below hb
  have k0 := cell_of_row _ _ 0 _ _ _ hx
  have k1 := cell_of_row _ _ 1 _ _ _ hx
  have k2 := cell_of_row _ _ 2 _ _ _ hx
  have k3 := cell_of_row _ _ 3 _ _ _ hx
  go_wp2_with fail
  refine (right_c _ _ a ha).mono ?_
  rintro e w3 ⟨rfl, hb3⟩
  replace hx := (hb3.block _ (Array.getElem?_eq_some_iff.1 hx).1).trans hx
  replace ha := ha.below hb3
  replace hb := hb.trans (hb3.mono hb.size)
  clear hb3 k0 k1 k2 k3
  cases hR : rightA a
  · go_wp2_with fail
    go_ret
    exact HE.out _ hb
  have HV : Hid (AuV a a.letters.toNat ∧ a.next.length ≤ 14) := right_v hR
  clear hR
  have k0 := cell_of_row _ _ 0 _ _ _ hx
  have k1 := cell_of_row _ _ 1 _ _ _ hx
  have k2 := cell_of_row _ _ 2 _ _ _ hx
  have k3 := cell_of_row _ _ 3 _ _ _ hx
  go_wp2_with fail
  refine (Merge_c _ _ a ha).mono ?_
  rintro e w4 ⟨vhm, rfl, hK, hb3⟩
  have hm := hK _ (Only.refl _ _)
  replace hx := (hb3.block _ (Array.getElem?_eq_some_iff.1 hx).1).trans hx
  replace ha := ha.below hb3
  replace hb := hb.trans (hb3.mono hb.size)
  clear hb3 hK k0 k1 k2 k3
  obtain ⟨m, hmm⟩ : ∃ t, mergeF a = t := ⟨_, rfl⟩
  rw [hmm] at hm
  have HMM : Hid (m = mergeA a) := by
    show _ = _
    rw [← hmm]; unfold mergeF; rw [if_pos HV.out.1.valid]
  clear hmm
  have HAM : Hid (AuV m a.letters.toNat ∧ m.next.length ≤ 14) := by
    have h1 := mergeF_n a
    unfold mergeF at h1
    rw [if_pos HV.out.1.valid] at h1
    show _ ∧ _
    rw [HMM.out]; exact ⟨HV.out.1.merge, Nat.le_trans h1 HV.out.2⟩
  obtain ⟨c2, e2, c3, e3, rfl⟩ := hm.shape
  go_upto_region 5 with (fail)
  obtain ⟨xm, hb3, -⟩ := box_new hb hb.size #[.int .i64 m.letters, .int .i64 m.start, .slice c2 m.next.length e2, .slice c3 m.prio.length e3] 24
  replace hx := (hb3.block _ (Array.getElem?_eq_some_iff.1 hx).1).trans hx
  replace ha := ha.below hb3
  replace hm := hm.below hb3
  replace hb := hb.trans (hb3.mono hb.size)
  generalize w4.alloc (.cells #[.int .i64 m.letters, .int .i64 m.start, .slice c2 m.next.length e2, .slice c3 m.prio.length e3] 24) = w5 at *
  generalize w4.heap.size = zxm at *
  clear hb3
  have hvm : validA m = true := HAM.out.1.valid
  have k0 := cell_of_row _ _ 0 _ _ _ xm
  have k1 := cell_of_row _ _ 1 _ _ _ xm
  have k2 := cell_of_row _ _ 2 _ _ _ xm
  have k3 := cell_of_row _ _ 3 _ _ _ xm
  go_wp2_with fail
  refine (PValid_c _ _ m hm).mono ?_
  rw [hvm]
  rintro e w6 ⟨rfl, hb3⟩
  replace hx := (hb3.block _ (Array.getElem?_eq_some_iff.1 hx).1).trans hx
  replace xm := (hb3.block _ (Array.getElem?_eq_some_iff.1 xm).1).trans xm
  replace ha := ha.below hb3
  replace hm := hm.below hb3
  replace hb := hb.trans (hb3.mono hb.size)
  clear hb3 k0 k1 k2 k3
  have k0 := cell_of_row _ _ 0 _ _ _ xm
  have k1 := cell_of_row _ _ 1 _ _ _ xm
  have k2 := cell_of_row _ _ 2 _ _ _ xm
  have k3 := cell_of_row _ _ 3 _ _ _ xm
  go_wp2_with fail
  refine (RPValid_c _ _ m hm).mono ?_
  rw [hvm]
  rintro e w7 ⟨rfl, hb3⟩
  replace hx := (hb3.block _ (Array.getElem?_eq_some_iff.1 hx).1).trans hx
  replace xm := (hb3.block _ (Array.getElem?_eq_some_iff.1 xm).1).trans xm
  replace ha := ha.below hb3
  replace hm := hm.below hb3
  replace hb := hb.trans (hb3.mono hb.size)
  clear hb3 k0 k1 k2 k3
  clear hvm
  have HDM : Hid (∀ i j, i < m.next.length → j < i → difB m a.letters.toNat i j = true) := fun i j hi hj => difB_true fun h => by
    rw [HMM.out] at h hi
    have := merge_diff HV.out.1 hi (by omega) h
    omega
  obtain ⟨nm, hnm⟩ : ∃ n, m.next.length = n := ⟨_, rfl⟩
  have HNM := Lib.hid hnm
  obtain ⟨na, hna⟩ : ∃ n, a.next.length = n := ⟨_, rfl⟩
  have HNA := Lib.hid hna
  rw [hnm] at xm hm HDM HAM
  rw [hna] at hx ha HV
  have hnm14 : nm ≤ 14 := HAM.out.2
  have hna14 : na ≤ 14 := HV.out.2
  clear hnm hna
  have HBT := Lib.hid hb
  clear hb
  have HX5 := Lib.hid (And.intro hx xm)
  have HI5 := Lib.hid (And.intro ha hm)
  have k2 := cell_of_row _ _ 2 _ _ _ xm
  clear hx xm ha hm
  go_upto_region 8 with (fail)
  clear k2
  go_loopg [5] nm (fun gh i wr => ∃ k : Nat, gh = nm - k ∧ i = .int .i64 k ∧ k ≤ nm ∧ Below w7.heap.size w7 wr)
  case atStart => exact ⟨0, rfl, rfl, by omega, Below.refl _ _⟩
  case round =>
    obtain ⟨k, hgk, rfl, hk, hB⟩ := hrel
    have HGK := Lib.hid hgk
    have HB := Lib.hid hB
    clear hgk
    have xm := (hB.block _ (Array.getElem?_eq_some_iff.1 HX5.out.2).1).trans HX5.out.2
    have k2 := cell_of_row _ _ 2 _ _ _ xm
    clear hB
    by_cases hlt : k < nm
    · as_aux_lemma =>
      have hk1 : (k : Int) < (nm : Int) := by omega
      clear xm
      go_upto_region 11 with (fail)
      clear k2
      obtain ⟨wo, rfl⟩ : ∃ wo : World, wo = wr := ⟨_, rfl⟩
      go_loopg [6] k (fun gh j wx => ∃ x : Nat, gh = k - x ∧ j = .int .i64 x ∧ x ≤ k ∧ Below w7.heap.size w7 wx)
      case atStart => exact ⟨0, rfl, rfl, by omega, HB.out⟩
      case round =>
        clear HB
        obtain ⟨x, hgx, rfl, hx, hB⟩ := hrel
        have HGX := Lib.hid hgx
        have HB := Lib.hid hB
        clear hgx
        by_cases hltx : x < k
        · as_aux_lemma =>
          have hx1 : (x : Int) < (k : Int) := by omega
          have xm := (hB.block _ (Array.getElem?_eq_some_iff.1 HX5.out.2).1).trans HX5.out.2
          have hm := HI5.out.2.below hB
          have k0 := cell_of_row _ _ 0 _ _ _ xm
          have k1 := cell_of_row _ _ 1 _ _ _ xm
          have k2 := cell_of_row _ _ 2 _ _ _ xm
          have k3 := cell_of_row _ _ 3 _ _ _ xm
          have hd := HDM.out k x hlt hltx
          have HMC := Lib.hid (differ_c wr _ m a.letters.toNat k x hm HAM.out.1 (by have := HNM.out; have := HAM.out.2; omega) (by rw [HNM.out]; exact hlt) (by rw [HNM.out]; omega))
          clear xm hm hB
          go_wp2_with fail
          refine HMC.out.mono ?_
          rw [hd]
          rintro e wn ⟨rfl, hb3⟩
          have HBn := Lib.hid (HB.out.trans (hb3.mono HB.out.size))
          clear hb3 HMC hd k0 k1 k2 k3
          go_wp2_with fail
          go_roundg (k - (x + 1))
          case measure => have := HGX.out; omega
          case rel => exact ⟨x + 1, rfl, by go_num, by omega, HBn.out⟩
        · as_aux_lemma =>
          obtain rfl : x = k := by omega
          clear hB
          go_wp2
          go_roundg (nm - (x + 1))
          case measure => have := HGK.out; omega
          case rel => exact ⟨x + 1, rfl, by go_num, by omega, HB.out⟩
    · as_aux_lemma =>
      obtain rfl : k = nm := by omega
      clear hlt hk HGK
      obtain ⟨wo, rfl⟩ : ∃ wo : World, wo = wr := ⟨_, rfl⟩
      go_wp2_with fail
      clear k2 xm
      go_loopg [7, 8] na (fun gh c i wr => ∃ q : Nat, gh = na - q ∧ c = .int .i64 (cntC a q : Int) ∧ i = .int .i64 q ∧ q ≤ na ∧ Below w7.heap.size w7 wr)
      case atStart => exact ⟨0, rfl, rfl, rfl, by omega, HB.out⟩
      case round =>
        clear HB
        obtain ⟨q, hgq, rfl, rfl, hq, hB⟩ := hrel
        have HGQ := Lib.hid hgq
        have HB := Lib.hid hB
        clear hgq
        have hx := (hB.block _ (Array.getElem?_eq_some_iff.1 HX5.out.1).1).trans HX5.out.1
        have k2 := cell_of_row _ _ 2 _ _ _ hx
        by_cases hlq : q < na
        · as_aux_lemma =>
          have hq1 : (q : Int) < (na : Int) := by omega
          have HCN : Hid (newQ a a.letters.toNat q q = true → cntC a (q + 1) = cntC a q + 1) := fun h => (cntC_next HV.out.1 (by rw [HNA.out]; exact hlq)).2 (newQ_true h)
          have HCF : Hid (newQ a a.letters.toNat q q = false → cntC a (q + 1) = cntC a q) := fun h => (cntC_next HV.out.1 (by rw [HNA.out]; exact hlq)).1 (newQ_false h)
          have hcl : cntC a q ≤ 14 := Nat.le_trans keysG_len (by have := HV.out.2; omega)
          generalize cntC a q = cq at *
          clear hx hB
          go_wp2_with fail
          clear k2
          obtain ⟨wz, rfl⟩ : ∃ wo : World, wo = wr := ⟨_, rfl⟩
          go_loopg [9, 10] q (fun gh b j wx => ∃ x : Nat, gh = q - x ∧ b = .bool (newQ a a.letters.toNat q x) ∧ j = .int .i64 x ∧ x ≤ q ∧ Below w7.heap.size w7 wx)
          case atStart => exact ⟨0, rfl, rfl, rfl, by omega, HB.out⟩
          case round =>
            clear HB
            obtain ⟨x, hgx, rfl, rfl, hx, hB⟩ := hrel
            have HGX := Lib.hid hgx
            have HB := Lib.hid hB
            clear hgx
            by_cases hltx : x < q
            · as_aux_lemma =>
              have hx1 : (x : Int) < (q : Int) := by omega
              have HNS : Hid (newQ a a.letters.toNat q (x + 1) = (newQ a a.letters.toNat q x && difB a a.letters.toNat q x)) := newQ_succ ..
              cases hnq : newQ a a.letters.toNat q x
              · rw [hnq] at HNS
                clear hB hnq
                go_wp2_with fail
                go_roundg (q - (x + 1))
                case measure => have := HGX.out; omega
                case rel => exact ⟨x + 1, rfl, by rw [HNS.out]; rfl, by go_num, by omega, HB.out⟩
              · rw [hnq] at HNS
                clear hnq
                have hxx := (hB.block _ (Array.getElem?_eq_some_iff.1 HX5.out.1).1).trans HX5.out.1
                have ha := HI5.out.1.below hB
                have k0 := cell_of_row _ _ 0 _ _ _ hxx
                have k1 := cell_of_row _ _ 1 _ _ _ hxx
                have k2 := cell_of_row _ _ 2 _ _ _ hxx
                have k3 := cell_of_row _ _ 3 _ _ _ hxx
                have HMC := Lib.hid (differ_c wr _ a a.letters.toNat q x ha HV.out.1 (by have := HNA.out; have := HV.out.2; omega) (by rw [HNA.out]; exact hlq) (by rw [HNA.out]; omega))
                clear hxx ha hB
                go_wp2_with fail
                refine HMC.out.mono ?_
                rintro e wn ⟨rfl, hb3⟩
                have HBn := Lib.hid (HB.out.trans (hb3.mono HB.out.size))
                clear hb3 HMC k0 k1 k2 k3
                go_wp2_with fail
                go_roundg (q - (x + 1))
                case measure => have := HGX.out; omega
                case rel => exact ⟨x + 1, rfl, by rw [HNS.out]; rfl, by go_num, by omega, HBn.out⟩
            · as_aux_lemma =>
              obtain rfl : x = q := by omega
              clear hB
              cases hnq : newQ a a.letters.toNat x x
              · have HC := Lib.hid (HCF.out hnq)
                clear hnq
                go_wp2
                go_roundg (na - (x + 1))
                case measure => have := HGQ.out; omega
                case rel => exact ⟨x + 1, rfl, by rw [HC.out], by go_num, by omega, HB.out⟩
              · have HC := Lib.hid (HCN.out hnq)
                clear hnq
                go_wp2
                go_roundg (na - (x + 1))
                case measure => have := HGQ.out; omega
                case rel => exact ⟨x + 1, rfl, by rw [HC.out]; go_num, by go_num, by omega, HB.out⟩
        · as_aux_lemma =>
          obtain rfl : q = na := by omega
          have xm := (hB.block _ (Array.getElem?_eq_some_iff.1 HX5.out.2).1).trans HX5.out.2
          have j2 := cell_of_row _ _ 2 _ _ _ xm
          have hcc : cntC a q = k := by
            have := cntC_all a
            rw [HNA.out, ← HMM.out, HNM.out] at this
            exact this
          rw [hcc]
          clear hcc hB hx xm
          have c1 : ((k : Int) == (k : Int)) = true := by simp
          have c2 : (k == k) = true := by simp
          have hend := HE.out _ (HBT.out.trans (HB.out.mono HBT.out.size))
          go_wp2
          go_ret
          exact hend

end Go.Proofs.Ytdkpdpcecjcmcaa
