/- What classes returns. -/
import Derived.Test.YtdkpdpcecjcmcaaQRd25
namespace Go.Proofs.Ytdkpdpcecjcmcaa
open Go.RowKit

theorem cls_i64 {a : Au} {k i : Nat} (hA : AuV a k) : ∀ x ∈ clsI a i, I64 x := fun x hx => by
  obtain ⟨j, hj, rfl⟩ := mem_getD hx
  rw [clsI_len] at hj
  rw [clsI_row, classL_at hj]
  have h1 := List.idxOf_lt_length_iff.2 (keysG_mem (R := rowI a i) (n := a.next.length).2 ⟨j, hj, rfl⟩)
  have h2 := keysG_len (R := rowI a i) (n := a.next.length)
  have h3 := hA.n1
  unfold I64; omega
theorem pad_row0 {a : Au} {k : Nat} (hA : AuV a k) : classL (fun s => pad65 (0 :: a.prio.getD s [])) a.next.length = clsI a 0 ∧ (keysG (fun s => pad65 (0 :: a.prio.getD s [])) a.next.length).length = cntI a 0 := by
  have h := classL_same (R := fun s => pad65 (0 :: a.prio.getD s [])) (R' := rowI a 0) (n := a.next.length) fun s t hs ht => by
    refine ⟨fun e => pad_inj ?_ e, fun e => ?_⟩
    · show (0 :: a.prio.getD s []).length = (0 :: a.prio.getD t []).length
      rw [List.length_cons, List.length_cons, (hA.ln s hs).2, (hA.ln t ht).2]
    · show pad65 (rowI a 0 s) = pad65 (rowI a 0 t)
      rw [e]
  exact h
theorem pad_rowI {a : Au} {k : Nat} (hA : AuV a k) (i : Nat) : classL (fun s => pad65 (rowG a (clsI a i) s)) a.next.length = clsI a (i + 1) ∧ (keysG (fun s => pad65 (rowG a (clsI a i) s)) a.next.length).length = cntI a (i + 1) := by
  have h := classL_same (R := fun s => pad65 (rowG a (clsI a i) s)) (R' := rowI a (i + 1)) (n := a.next.length) fun s t hs ht => by
    refine ⟨fun e => pad_inj ?_ e, fun e => ?_⟩
    · show (rowG a (clsI a i) s).length = (rowG a (clsI a i) t).length
      unfold rowG
      rw [List.length_cons, List.length_cons, List.length_map, List.length_map, (hA.ln s hs).1, (hA.ln t ht).1]
    · show pad65 (rowI a (i + 1) s) = pad65 (rowI a (i + 1) t)
      rw [e]
  exact h
theorem rowG_wf {a : Au} {k i s : Nat} (hA : AuV a k) (hs : s < a.next.length) : WfR (pad65 (rowG a (clsI a i) s)) := by
  have hk := hA.k1
  refine pad_wf (by unfold rowG; rw [List.length_cons, List.length_map, (hA.ln s hs).1]; omega) fun x hx => ?_
  have hz : I64 0 := by unfold I64; omega
  have hg : ∀ j, I64 ((clsI a i).getD j 0) := fun j => by
    by_cases h : j < (clsI a i).length
    · exact cls_i64 hA _ (getD_mem h)
    · have : (clsI a i).getD j 0 = 0 := by simp [List.getD, List.getElem?_eq_none (Nat.le_of_not_lt h)]
      rw [this]; exact hz
  unfold rowG at hx
  rcases List.mem_cons.1 hx with e | e
  · rw [e]; exact hg _
  · obtain ⟨y, _, rfl⟩ := List.mem_map.1 e
    exact hg _
theorem row0_wf {a : Au} {k s : Nat} (hA : AuV a k) (hs : s < a.next.length) : WfR (pad65 (0 :: a.prio.getD s [])) := by
  have hk := hA.k1
  refine pad_wf (by rw [List.length_cons, (hA.ln s hs).2]; omega) fun x hx => ?_
  rcases List.mem_cons.1 hx with e | e
  · rw [e]; unfold I64; omega
  · obtain ⟨j, hj, rfl⟩ := mem_getD e
    have := hA.pr s j hs (by have := (hA.ln s hs).2; omega)
    unfold I64; omega

set_option maxRecDepth 100000 in
set_option maxHeartbeats 8000000 in
theorem classes_c (w : World) (v : Value) (a : Au) (k : Nat) (ha : IsAuto w v a) (hA : AuV a k) : Calls Try.prog 36 #[v] w (NewN (clsA a) w) := by
  have HA := Lib.hid ha
  obtain ⟨vN, vP, rfl, hI, hN, hP⟩ := ha
  have HN := Lib.hid hN
  have HP := Lib.hid hP
  have HV := Lib.hid hA
  have hn1 := hA.n1
  have hn3 : a.next.length ≤ 3000 := hn1.2
  have bx := heap_alloc_new w (.cells #[.int .i64 a.letters, .int .i64 a.start, vN, vP] 24)
  have hb1 : Below w.heap.size w (w.alloc (.cells #[.int .i64 a.letters, .int .i64 a.start, vN, vP] 24)) := bel_box _
  obtain ⟨w1, hw1⟩ : ∃ w1, w1 = w.alloc (.cells #[.int .i64 a.letters, .int .i64 a.start, vN, vP] 24) := ⟨_, rfl⟩
  obtain ⟨zc, hzc⟩ : ∃ zc, zc = w.heap.size := ⟨_, rfl⟩
  have hN1 := (numbered1_c w1 (.agg #[.int .i64 a.letters, .int .i64 a.start, vN, vP]) a zc (fun s => pad65 (0 :: a.prio.getD s [])) (HA.out.below (by rw [hw1]; exact hb1)) hn3 (fun s hs => row0_wf HV.out hs)
    (fun W s hs hW => cls1_c W zc s a _ _ _ vP k ((hW.block zc (by rw [hw1, hzc]; simp)).trans (by rw [hw1, hzc]; exact bx)) ((HP.out.below hb1).below (by rw [← hw1]; exact hW)) (by rw [HV.out.pn]; exact hs) (HV.out.ln s hs).2 HV.out.k1))
  have HN1 := Lib.hid hN1
  have d0 : w1.cell? ⟨zc, 0, none⟩ = some (.int .i64 a.letters) := by rw [hw1, hzc]; exact cell_of_row _ _ 0 _ _ _ bx
  have d1 : w1.cell? ⟨zc, 1, none⟩ = some (.int .i64 a.start) := by rw [hw1, hzc]; exact cell_of_row _ _ 1 _ _ _ bx
  have d2 : w1.cell? ⟨zc, 2, none⟩ = some vN := by rw [hw1, hzc]; exact cell_of_row _ _ 2 _ _ _ bx
  have d3 : w1.cell? ⟨zc, 3, none⟩ = some vP := by rw [hw1, hzc]; exact cell_of_row _ _ 3 _ _ _ bx
  have HBX : Hid (w1.heap[zc]? = some (.cells #[.int .i64 a.letters, .int .i64 a.start, vN, vP] 24 (0, 0))) := by show _ = _; rw [hw1, hzc]; exact bx
  have HB1 : Hid (Below w.heap.size w w1) := by show Below _ _ _; rw [hw1]; exact hb1
  have HW1 := Lib.hid hw1
  have HZC := Lib.hid hzc
  clear hN1 hw1 hzc bx hb1 hN hP hI hA hn1
  go_enter Try.func36, Try.ntmps36
  go_upto_region 1 with (fail)
  rw [← HW1.out, ← HZC.out]
  go_wp2_with fail
  refine HN1.out.mono ?_
  rintro e w2 ⟨vc, rfl, hO2, hB2⟩
  rw [(pad_row0 HV.out).1] at hO2
  obtain ⟨av, cv, hvc⟩ := hO2.slice
  rw [clsI_len] at hvc
  subst hvc
  rw [(pad_row0 HV.out).2]
  have HO2 := Lib.hid hO2
  have hz1 : zc < w1.heap.size := (Array.getElem?_eq_some_iff.1 HBX.out).1
  have hbd : Below w2.heap.size w2 (w2.alloc (.cells #[.slice av a.next.length cv] 29)) := bel_box _
  have HD := Lib.hid (heap_alloc_new w2 (.cells #[.slice av a.next.length cv] 29))
  have HB3 : Hid (Below w1.heap.size w1 (w2.alloc (.cells #[.slice av a.next.length cv] 29))) := hB2.trans (hbd.mono hB2.size)
  have HI3 : Hid (OI (w2.alloc (.cells #[.slice av a.next.length cv] 29)) w1.heap.size (.slice av a.next.length cv) (clsI a 0)) := hO2.below hbd
  have hz2 : w1.heap.size ≤ w2.heap.size := hB2.size
  have HNE2 : Hid ((.slice av a.next.length cv : Value).ownBlock ≠ some w2.heap.size) := fun e => by have := hO2.lt' _ e; omega
  clear hO2 hB2 hbd d0 d1 d2 d3 HN1
  go_wp2_with fail
  obtain ⟨zd, hzd⟩ : ∃ zd, zd = w2.heap.size := ⟨_, rfl⟩
  rw [← hzd] at HD hz2 HNE2
  rw [← hzd]
  generalize w2.alloc (.cells #[.slice av a.next.length cv] 29) = w3 at *
  clear hzd HO2
  go_loopg [4] (a.next.length + 1 - cntI a 0) (fun gh c4 wx => ∃ (i : Nat) (vc : Value), gh = a.next.length + 1 - cntI a i ∧ c4 = .int .i64 (cntI a i : Int) ∧ Hid (wx.heap[zd]? = some (.cells #[vc] 29 (0, 0))) ∧ Hid (OI wx w1.heap.size vc (clsI a i)) ∧ Hid (vc.ownBlock ≠ some zd) ∧ Hid (Below w1.heap.size w1 wx))
  case atStart => exact ⟨0, _, rfl, rfl, HD, HI3, HNE2, HB3⟩
  case round =>
    clear HD HI3 HNE2 HB3
    obtain ⟨i, vc, hgi, rfl, HD, HI, HNe, HB⟩ := hrel
    have HGI := Lib.hid hgi
    clear hgi
    have HIs : Hid (IsInts wr vc (clsI a i)) := HI.out.is (by rw [clsI_len]; unfold maxN; omega) (cls_i64 HV.out)
    have HC2 := Lib.hid (numbered2_c wr (.agg #[.int .i64 a.letters, .int .i64 a.start, vN, vP]) a zd zc (fun s => pad65 (rowG a (clsI a i) s)) (HA.out.below (HB1.out.trans (HB.out.mono HB1.out.size))) hn3 (fun s hs => rowG_wf HV.out hs)
      (fun W s hs hW => cls2_c W zd zc s a (clsI a i) a.letters (.int .i64 a.start) vN vP vc k ((hW.block zc (by have := HB.out.size; omega)).trans ((HB.out.block zc hz1).trans HBX.out)) ((hW.block zd (Array.getElem?_eq_some_iff.1 HD.out).1).trans HD.out) (HN.out.below ((HB1.out.trans (HB.out.mono HB1.out.size)).trans (hW.mono (by have h1 := HB1.out.size; have h2 := HB.out.size; omega)))) (HIs.out.below hW) HV.out (clsI_len a i) hs))
    have d0 := cell_of_row _ _ 0 _ _ _ ((HB.out.block zc hz1).trans HBX.out)
    have d1 := cell_of_row _ _ 1 _ _ _ ((HB.out.block zc hz1).trans HBX.out)
    have d2 := cell_of_row _ _ 2 _ _ _ ((HB.out.block zc hz1).trans HBX.out)
    have d3 := cell_of_row _ _ 3 _ _ _ ((HB.out.block zc hz1).trans HBX.out)
    go_wp2_with fail
    refine HC2.out.mono ?_
    rintro e w4 ⟨vc2, rfl, hO4, hB4⟩
    rw [(pad_rowI HV.out i).1] at hO4
    rw [(pad_rowI HV.out i).2]
    obtain ⟨a2, c2, hv2⟩ := hO4.slice
    rw [clsI_len] at hv2
    subst hv2
    have hzdr : zd < wr.heap.size := (Array.getElem?_eq_some_iff.1 HD.out).1
    have hd4 := (hB4.block zd hzdr).trans HD.out
    have n0 := cell_of_row _ _ 0 _ _ _ hd4
    have hup := cntI_up HV.out i
    have hle := cntI_le a (i + 1)
    have hwr := HB.out.size
    clear d0 d1 d2 d3 HC2
    by_cases hst : cntI a (i + 1) = cntI a i
    · have he : ((cntI a (i + 1) : Int) == (cntI a i : Int)) = true := by rw [hst]; simp
      have HF : Hid (IsInts w4 vc (clsA a)) := by
        show IsInts _ _ _
        unfold clsA
        rw [← clsI_stop HV.out hst]
        exact HIs.out.below hB4
      have HB4 := Lib.hid (HB1.out.trans ((HB.out.trans (hB4.mono hwr)).mono HB1.out.size))
      clear hst hO4 hd4 hB4 hup hle
      go_wp2
      go_ret
      exact ⟨_, rfl, HF.out, HB4.out⟩
    · have he : ((cntI a (i + 1) : Int) == (cntI a i : Int)) = false := by simp; omega
      have hlt : cntI a i < cntI a (i + 1) := by omega
      have f0 := frozen_of_row _ _ 0 _ _ hd4
      have HS : Hid (Only (fun q => q = zd) w4 (w4.setCell ⟨zd, 0, none⟩ (.slice a2 a.next.length c2))) := Only.set _ _ _ rfl
      have HDn : Hid ((w4.setCell ⟨zd, 0, none⟩ (.slice a2 a.next.length c2)).heap[zd]? = some (.cells #[.slice a2 a.next.length c2] 29 (0, 0))) := one_set hd4
      have hne : (.slice a2 a.next.length c2 : Value).ownBlock ≠ some zd := fun e => by have := hO4.ge _ e; omega
      have HNn := Lib.hid hne
      have HIn : Hid (OI (w4.setCell ⟨zd, 0, none⟩ (.slice a2 a.next.length c2)) w1.heap.size (.slice a2 a.next.length c2) (clsI a (i + 1))) := (hO4.base hwr).only HS.out fun q e k => by rw [k] at e; exact hne e
      have HBn : Hid (Below w1.heap.size w1 (w4.setCell ⟨zd, 0, none⟩ (.slice a2 a.next.length c2))) := (HB.out.trans (hB4.mono hwr)).trans (HS.out.below _ (fun q e => by omega) (by have := hB4.size; omega))
      have HLt := Lib.hid hlt
      have HLe := Lib.hid hle
      clear hst hO4 hd4 hB4 hup hle hlt hne
      go_wp2
      go_roundg (a.next.length + 1 - cntI a (i + 1))
      case measure => have h1 := HGI.out; have h2 := HLt.out; have h3 := HLe.out; omega
      case rel => exact ⟨i + 1, _, rfl, by go_num, HDn, HIn, HNn, HBn⟩

end Go.Proofs.Ytdkpdpcecjcmcaa
