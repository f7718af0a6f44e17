/- What numbered returns. -/
import Derived.Test.YtdkpdpcecjcmcaaQRdR
import Derived.Test.YtdkpdpcecjcmcaaQRd19
import Derived.Test.YtdkpdpcecjcmcaaQRd23
namespace Go.Proofs.Ytdkpdpcecjcmcaa
open Go.RowKit

theorem rowZero : (∀ w, (zeroValue 74).run Try.prog w = .ok (.agg (Array.replicate 65 (.int .i64 0))) w) ∧ (Try.prog.info? 74).map (·.size) = some 65 := zero_of_info (by kernel_rfl)
def NumbOut (w : World) (R : Nat → List Int) (n : Nat) (e : Ending) (w' : World) : Prop :=
  ∃ vc, e = .returned (.tuple #[vc, .int .i64 ((keysG R n).length : Int)]) ∧ OI w' w.heap.size vc (classL R n) ∧ Below w.heap.size w w'
theorem fill_cls (R : Nat → List Int) {s x : Nat} (hs : s < x) : ((keysG R x).idxOf (R s) : Int) = ((keysG R (x + 1)).idxOf (R s) : Int) := by
  rw [cls_stay hs (Nat.le_succ x)]
theorem key_step {W : World} {mb : Nat} {R : Nat → List Int} {x : Nat} (h : NumR W mb (keysG R x)) (hm : R x ∈ keysG R x) : NumR W mb (keysG R (x + 1)) := by
  rw [keysG_succ, if_pos hm]; exact h
theorem fillL_congr' {f g : Nat → Int} {k x : Nat} (h : ∀ j, j < x → f j = g j) : fillL f k x = fillL g k x := by
  unfold fillL
  refine List.map_congr_left fun j _ => ?_
  by_cases e : j < x
  · rw [if_pos e, if_pos e, h j e]
  · rw [if_neg e, if_neg e]

set_option maxRecDepth 100000 in
set_option maxHeartbeats 8000000 in
theorem numbered1_c (w : World) (v : Value) (a : Au) (zc : Nat) (R : Nat → List Int) (ha : IsAuto w v a) (hn : a.next.length ≤ 3000) (hR : ∀ s, s < a.next.length → WfR (R s))
    (hof : ∀ W s, s < a.next.length → Below w.heap.size w W → Calls Try.prog 51 #[.int .i64 (s : Int), (.pointer (some ⟨zc, 0, none⟩))] W (Calm (rwV (R s)) W)) :
    Calls Try.prog 50 #[v, .func (.func 51) #[] #[(.pointer (some ⟨zc, 0, none⟩))]] w (NumbOut w R a.next.length) := by
  obtain ⟨vN, vP, rfl, hI, hN, hP⟩ := ha
  obtain ⟨aN, cN, bN, oN, V, hvN, hdN, hmN, hVN⟩ := hN.data
  subst hvN
  have HOF := Lib.hid hof
  have HR := Lib.hid hR
  have HMM := @run_makeMap Try.prog
  have bx := heap_alloc_new w (.cells #[.int .i64 a.letters, .int .i64 a.start, .slice aN a.next.length cN, vP] 24)
  have hb1 : Below w.heap.size w (w.alloc (.cells #[.int .i64 a.letters, .int .i64 a.start, .slice aN a.next.length cN, vP] 24)) := bel_box _
  have HB1 := Lib.hid hb1
  clear hof hR hI hN hP hdN hVN hb1
  go_enter Try.func50, Try.ntmps50
  go_upto_region 2 with (fail)
  have hbm : Below w.heap.size w ((w.alloc (.cells #[.int .i64 a.letters, .int .i64 a.start, .slice aN a.next.length cN, vP] 24)).alloc (.map #[] 0)) := (by repeat (first | exact Below.refl _ _ | assumption | (refine belA ?_ _) | (refine belD ?_ _)))
  have bx2 := ((bel_box (w := w.alloc (.cells #[.int .i64 a.letters, .int .i64 a.start, .slice aN a.next.length cN, vP] 24)) (.map #[] 0)).block _ (Array.getElem?_eq_some_iff.1 bx).1).trans bx
  have hm0 := NumR.made (w.alloc (.cells #[.int .i64 a.letters, .int .i64 a.start, .slice aN a.next.length cN, vP] 24))
  have hsz : (w.alloc (.cells #[.int .i64 a.letters, .int .i64 a.start, .slice aN a.next.length cN, vP] 24)).heap.size = w.heap.size + 1 := by simp
  rw [hsz] at hm0
  have HM0 := Lib.hid hm0
  have HBM := Lib.hid hbm
  clear HMM bx hbm HB1 hsz hm0
  generalize (w.alloc (.cells #[.int .i64 a.letters, .int .i64 a.start, .slice aN a.next.length cN, vP] 24)).alloc (.map #[] 0) = w2 at *
  have hz2 := HM0.out.lt
  obtain ⟨zp, hzp⟩ : ∃ zp, zp = w.heap.size := ⟨_, rfl⟩
  rw [← hzp] at bx2 HM0 hz2
  rw [← hzp]
  have d2 := cell_of_row _ _ 2 _ _ _ bx2
  have HBX := Lib.hid bx2
  have HZP := Lib.hid hzp
  clear hzp bx2
  go_upto_region 4 with (at_make; refine mk_int rfl _ _ _ Try.underlying29 rfl w2.heap.size (a.next.length : Int) a.next.length rfl rfl rfl (by omega) (Nat.le_refl _) ?_; intro w3 hown hg1; have HO3 := Lib.hid hown; have hb3 : Below w2.heap.size w2 w3 := below_of_grown hg1 (fun q e => (nomatch e)) (Nat.le_refl _); have HB3 := Lib.hid hb3; have d2 := cellB hb3 d2; clear hown hg1 hb3)
  obtain ⟨C, hCe⟩ : ∃ C, C = w2.heap.size := ⟨_, rfl⟩
  rw [← hCe] at HO3 HB3 hz2
  rw [← hCe]
  have HCe := Lib.hid hCe
  have HK3 : Hid (NumR w3 (zp + 1) (keysG R 0)) := HM0.out.below (by rw [← HCe.out]; exact HB3.out)
  have HBW3 : Hid (Below w.heap.size w w3) := HBM.out.trans (HB3.out.mono (by have := HZP.out; omega))
  rw [fillL_zero (fun j => ((keysG R 0).idxOf (R j) : Int)) a.next.length] at HO3
  clear d2 hCe
  go_loopg [20] a.next.length (fun gh i wx => ∃ (x : Nat), gh = a.next.length - x ∧ i = .int .i64 (x : Int) ∧ x ≤ a.next.length ∧ Hid (NumR wx (zp + 1) (keysG R x)) ∧ Hid (OI wx C (.slice (some ⟨C, 0, none⟩) a.next.length a.next.length) (fillL (fun j => ((keysG R x).idxOf (R j) : Int)) a.next.length x)) ∧ Hid (Below w.heap.size w wx))
  case atStart => exact ⟨0, rfl, rfl, by omega, HK3, HO3, HBW3⟩
  case round =>
    clear HK3 HO3 HBW3 HB3
    obtain ⟨x, hgx, rfl, hxn, HKx, HOx, HBx⟩ := hrel
    have HGX := Lib.hid hgx
    clear hgx
    have hkl : (keysG R x).length ≤ x := keysG_len
    by_cases hx : x < a.next.length
    · as_aux_lemma =>
      have hx2 : (x : Int) < a.next.length := by omega
      have hwf := HR.out x hx
      have HWF := Lib.hid hwf
      go_wp2_with fail
      refine (HOF.out wr x hx HBx.out).mono ?_
      rintro e w4 ⟨rfl, hb4⟩
      have HK4 := Lib.hid (HKx.out.below hb4)
      have HO4 := Lib.hid (HOx.out.below hb4)
      have HB4 := Lib.hid (HBx.out.trans (hb4.mono HBx.out.size))
      have hzr := rowZero.1
      have hyl : (R x).length = 65 := HWF.out.1
      have hc65 : (rwC (R x)).size = 65 := by rw [rwC_size]; exact hyl
      have hst : (storeCells ⟨w4.heap.size, 0, none⟩ (rwC (R x)).toList 0).run Try.prog (w4.alloc (.cells (Array.replicate 65 (.int .i64 0)) 74)) = .ok () (w4.alloc (.cells (rwC (R x)) 74)) :=
        run_storeCells_new w4 74 (Array.replicate 65 (.int .i64 0)) (rwC (R x)) (by rw [hc65]; exact rowZero.2) (by rw [hc65]; simp) (by simp [rwC, Value.oneCell'])
      have hcb := heap_alloc_new w4 (.cells (rwC (R x)) 74)
      have hbx5 : Below w4.heap.size w4 (w4.alloc (.cells (rwC (R x)) 74)) := bel_box _
      have HK5 := Lib.hid (HK4.out.below hbx5)
      have HO5 := Lib.hid (HO4.out.below hbx5)
      have HB5 := Lib.hid (HB4.out.trans (hbx5.mono HB4.out.size))
      clear hb4 hwf HKx HOx HBx hyl hbx5 HK4 HO4 HB4
      unfold rwV
      obtain ⟨c, hce⟩ : ∃ c, c = rwC (R x) := ⟨_, rfl⟩
      rw [← hce] at hst hcb hc65 HK5 HO5 HB5
      rw [← hce]
      have HCE := Lib.hid hce
      clear hce
      go_upto_region 7 with (fail)
      generalize w4.alloc (.cells c 74) = w5 at *
      clear hst hzr
      have HCB := Lib.hid hcb
      have hinfo : (Try.prog.info? 74).map (·.size) = some c.size := by rw [hc65]; exact rowZero.2
      have HInfo := Lib.hid hinfo
      clear hcb hinfo hc65
      have hcg : fillL (fun j => ((keysG R x).idxOf (R j) : Int)) a.next.length x = fillL (fun j => ((keysG R (x + 1)).idxOf (R j) : Int)) a.next.length x := fillL_congr' fun j hj => fill_cls R hj
      rw [hcg] at HO5
      have k1 := OI.at' HO5.out (by rw [fillL_len]) x (by rw [fillL_len]; exact hx)
      have ho := HO5.out
      unfold OI at ho
      rw [fillL_len] at ho
      have f1 : w5.frozen? ⟨C, x, none⟩ = false := World.ownsRow.frozenAt ho x
      have hC5 : C < w5.heap.size := HO5.out.lt' C rfl
      clear ho hcg
      have HST : Hid (∀ W, OI W C (.slice (some ⟨C, 0, none⟩) a.next.length a.next.length) (fillL (fun j => ((keysG R (x + 1)).idxOf (R j) : Int)) a.next.length x) → OI (W.setCell ⟨C, x, none⟩ (.int .i64 ((keysG R (x + 1)).idxOf (R x) : Int))) C (.slice (some ⟨C, 0, none⟩) a.next.length a.next.length) (fillL (fun j => ((keysG R (x + 1)).idxOf (R j) : Int)) a.next.length (x + 1))) := fun W h => by
        have h1 := OI.set h (by rw [fillL_len]) x ((keysG R (x + 1)).idxOf (R x) : Int)
        rwa [fillL_set (fun j => ((keysG R (x + 1)).idxOf (R j) : Int))] at h1
      have HSS : Hid (∀ W u, Only (fun q => q = C) W (W.setCell ⟨C, x, none⟩ u)) := fun W u => Only.set _ _ _ rfl
      have hwC : w.heap.size ≤ C := by have := HZP.out; omega
      by_cases hm : R x ∈ keysG R x
      · have hrun : (Instr.lookup 84 (.map (some (zp + 1))) (.agg c) true).run Try.prog w5 = .ok (.tuple #[.int .i64 ((keysG R x).idxOf (R x) : Int), .bool true]) w5 := by rw [HCE.out]; exact (HK5.out.get HWF.out).1 hm
        have hidx : (keysG R (x + 1)).idxOf (R x) = (keysG R x).idxOf (R x) := by rw [keysG_succ, if_pos hm]
        have HOn := Lib.hid (HST.out w5 HO5.out)
        rw [hidx] at HOn
        have HKn : Hid (NumR (w5.setCell ⟨C, x, none⟩ (.int .i64 ((keysG R x).idxOf (R x) : Int))) (zp + 1) (keysG R (x + 1))) := (key_step HK5.out hm).blk ((HSS.out w5 _).block _ HK5.out.lt (by omega))
        have HBn : Hid (Below w.heap.size w (w5.setCell ⟨C, x, none⟩ (.int .i64 ((keysG R x).idxOf (R x) : Int)))) := HB5.out.trans ((HSS.out w5 _).below _ (fun q e => by omega) HB5.out.size)
        clear hm hidx
        go_wp2_with (refine wpList_load_row rfl _ _ rfl w4.heap.size (by rfl) _ c _ _ HCB.out Try.underlying74 rfl HInfo.out ?_)
        go_roundg (a.next.length - (x + 1))
        case measure => have := HGX.out; omega
        case rel => exact ⟨x + 1, rfl, by go_num, by omega, HKn, HOn, HBn⟩
      · obtain ⟨c2, hrun0⟩ := (HK5.out.get HWF.out).2 hm
        have hrun : (Instr.lookup 84 (.map (some (zp + 1))) (.agg c) true).run Try.prog w5 = .ok (.tuple #[.int .i64 c2, .bool false]) w5 := by rw [HCE.out]; exact hrun0
        have hlen := fun ty => HK5.out.len ty
        obtain ⟨w6, hup0, hK6, hG6⟩ := HK5.out.upd HWF.out hm (by omega)
        have hup : (Instr.mapUpdate 84 (.map (some (zp + 1))) (.agg c) (.int .i64 ((keysG R x).length : Int))).run Try.prog w5 = .ok () w6 := by rw [HCE.out]; exact hup0
        have hidx : (keysG R (x + 1)).idxOf (R x) = (keysG R x).length := by rw [keysG_succ, if_neg hm, idxL_new hm]
        have ho6 : OI w6 C (.slice (some ⟨C, 0, none⟩) a.next.length a.next.length) (fillL (fun j => ((keysG R (x + 1)).idxOf (R j) : Int)) a.next.length x) := HO5.out.only (Only.of_grown hG6) fun q e1 e2 => by
          have e1 : C = q := Option.some.inj e1
          have e2 : zp + 1 = q := Option.some.inj e2
          omega
        have k2 := OI.at' ho6 (by rw [fillL_len]) x (by rw [fillL_len]; exact hx)
        have ho := ho6
        unfold OI at ho
        rw [fillL_len] at ho
        have f2 : w6.frozen? ⟨C, x, none⟩ = false := World.ownsRow.frozenAt ho x
        have HOn := Lib.hid (HST.out w6 ho6)
        rw [hidx] at HOn
        have HKn : Hid (NumR (w6.setCell ⟨C, x, none⟩ (.int .i64 ((keysG R x).length : Int))) (zp + 1) (keysG R (x + 1))) := by
          show NumR _ _ _
          rw [keysG_succ, if_neg hm]
          exact hK6.blk ((HSS.out w6 _).block _ hK6.lt (by omega))
        have HBn : Hid (Below w.heap.size w (w6.setCell ⟨C, x, none⟩ (.int .i64 ((keysG R x).length : Int)))) := (HB5.out.trans (below_of_grown hG6 (fun q e => by have e2 : zp + 1 = q := Option.some.inj e; have := HZP.out; omega) HB5.out.size)).trans ((HSS.out w6 _).below _ (fun q e => by omega) (by have := hG6.size; have := HB5.out.size; omega))
        clear hm hidx hrun0 hup0 hK6 hG6 ho ho6 k1 f1
        go_wp2_with (refine wpList_load_row rfl _ _ rfl w4.heap.size (by rfl) _ c _ _ HCB.out Try.underlying74 rfl HInfo.out ?_)
        go_roundg (a.next.length - (x + 1))
        case measure => have := HGX.out; omega
        case rel => exact ⟨x + 1, rfl, by go_num, by omega, HKn, HOn, HBn⟩
    · as_aux_lemma =>
      obtain rfl : x = a.next.length := by omega
      have hlen := fun ty => HKx.out.len ty
      have HF : Hid (OI wr w.heap.size (.slice (some ⟨C, 0, none⟩) a.next.length a.next.length) (classL R a.next.length)) := by
        have h := HOx.out.base (show w.heap.size ≤ C by have := HZP.out; omega)
        rw [fillL_all] at h
        exact h
      clear HOx HKx
      go_wp2
      go_ret2
      exact ⟨_, rfl, HF.out, HBx.out⟩

set_option maxRecDepth 100000 in
set_option maxHeartbeats 8000000 in
theorem numbered2_c (w : World) (v : Value) (a : Au) (zd zc : Nat) (R : Nat → List Int) (ha : IsAuto w v a) (hn : a.next.length ≤ 3000) (hR : ∀ s, s < a.next.length → WfR (R s))
    (hof : ∀ W s, s < a.next.length → Below w.heap.size w W → Calls Try.prog 52 #[.int .i64 (s : Int), (.pointer (some ⟨zd, 0, none⟩)), (.pointer (some ⟨zc, 0, none⟩))] W (Calm (rwV (R s)) W)) :
    Calls Try.prog 50 #[v, .func (.func 52) #[] #[(.pointer (some ⟨zd, 0, none⟩)), (.pointer (some ⟨zc, 0, none⟩))]] w (NumbOut w R a.next.length) := by
  obtain ⟨vN, vP, rfl, hI, hN, hP⟩ := ha
  obtain ⟨aN, cN, bN, oN, V, hvN, hdN, hmN, hVN⟩ := hN.data
  subst hvN
  have HOF := Lib.hid hof
  have HR := Lib.hid hR
  have HMM := @run_makeMap Try.prog
  have bx := heap_alloc_new w (.cells #[.int .i64 a.letters, .int .i64 a.start, .slice aN a.next.length cN, vP] 24)
  have hb1 : Below w.heap.size w (w.alloc (.cells #[.int .i64 a.letters, .int .i64 a.start, .slice aN a.next.length cN, vP] 24)) := bel_box _
  have HB1 := Lib.hid hb1
  clear hof hR hI hN hP hdN hVN hb1
  go_enter Try.func50, Try.ntmps50
  go_upto_region 2 with (fail)
  have hbm : Below w.heap.size w ((w.alloc (.cells #[.int .i64 a.letters, .int .i64 a.start, .slice aN a.next.length cN, vP] 24)).alloc (.map #[] 0)) := (by repeat (first | exact Below.refl _ _ | assumption | (refine belA ?_ _) | (refine belD ?_ _)))
  have bx2 := ((bel_box (w := w.alloc (.cells #[.int .i64 a.letters, .int .i64 a.start, .slice aN a.next.length cN, vP] 24)) (.map #[] 0)).block _ (Array.getElem?_eq_some_iff.1 bx).1).trans bx
  have hm0 := NumR.made (w.alloc (.cells #[.int .i64 a.letters, .int .i64 a.start, .slice aN a.next.length cN, vP] 24))
  have hsz : (w.alloc (.cells #[.int .i64 a.letters, .int .i64 a.start, .slice aN a.next.length cN, vP] 24)).heap.size = w.heap.size + 1 := by simp
  rw [hsz] at hm0
  have HM0 := Lib.hid hm0
  have HBM := Lib.hid hbm
  clear HMM bx hbm HB1 hsz hm0
  generalize (w.alloc (.cells #[.int .i64 a.letters, .int .i64 a.start, .slice aN a.next.length cN, vP] 24)).alloc (.map #[] 0) = w2 at *
  have hz2 := HM0.out.lt
  obtain ⟨zp, hzp⟩ : ∃ zp, zp = w.heap.size := ⟨_, rfl⟩
  rw [← hzp] at bx2 HM0 hz2
  rw [← hzp]
  have d2 := cell_of_row _ _ 2 _ _ _ bx2
  have HBX := Lib.hid bx2
  have HZP := Lib.hid hzp
  clear hzp bx2
  go_upto_region 4 with (at_make; refine mk_int rfl _ _ _ Try.underlying29 rfl w2.heap.size (a.next.length : Int) a.next.length rfl rfl rfl (by omega) (Nat.le_refl _) ?_; intro w3 hown hg1; have HO3 := Lib.hid hown; have hb3 : Below w2.heap.size w2 w3 := below_of_grown hg1 (fun q e => (nomatch e)) (Nat.le_refl _); have HB3 := Lib.hid hb3; have d2 := cellB hb3 d2; clear hown hg1 hb3)
  obtain ⟨C, hCe⟩ : ∃ C, C = w2.heap.size := ⟨_, rfl⟩
  rw [← hCe] at HO3 HB3 hz2
  rw [← hCe]
  have HCe := Lib.hid hCe
  have HK3 : Hid (NumR w3 (zp + 1) (keysG R 0)) := HM0.out.below (by rw [← HCe.out]; exact HB3.out)
  have HBW3 : Hid (Below w.heap.size w w3) := HBM.out.trans (HB3.out.mono (by have := HZP.out; omega))
  rw [fillL_zero (fun j => ((keysG R 0).idxOf (R j) : Int)) a.next.length] at HO3
  clear d2 hCe
  go_loopg [20] a.next.length (fun gh i wx => ∃ (x : Nat), gh = a.next.length - x ∧ i = .int .i64 (x : Int) ∧ x ≤ a.next.length ∧ Hid (NumR wx (zp + 1) (keysG R x)) ∧ Hid (OI wx C (.slice (some ⟨C, 0, none⟩) a.next.length a.next.length) (fillL (fun j => ((keysG R x).idxOf (R j) : Int)) a.next.length x)) ∧ Hid (Below w.heap.size w wx))
  case atStart => exact ⟨0, rfl, rfl, by omega, HK3, HO3, HBW3⟩
  case round =>
    clear HK3 HO3 HBW3 HB3
    obtain ⟨x, hgx, rfl, hxn, HKx, HOx, HBx⟩ := hrel
    have HGX := Lib.hid hgx
    clear hgx
    have hkl : (keysG R x).length ≤ x := keysG_len
    by_cases hx : x < a.next.length
    · as_aux_lemma =>
      have hx2 : (x : Int) < a.next.length := by omega
      have hwf := HR.out x hx
      have HWF := Lib.hid hwf
      go_wp2_with fail
      refine (HOF.out wr x hx HBx.out).mono ?_
      rintro e w4 ⟨rfl, hb4⟩
      have HK4 := Lib.hid (HKx.out.below hb4)
      have HO4 := Lib.hid (HOx.out.below hb4)
      have HB4 := Lib.hid (HBx.out.trans (hb4.mono HBx.out.size))
      have hzr := rowZero.1
      have hyl : (R x).length = 65 := HWF.out.1
      have hc65 : (rwC (R x)).size = 65 := by rw [rwC_size]; exact hyl
      have hst : (storeCells ⟨w4.heap.size, 0, none⟩ (rwC (R x)).toList 0).run Try.prog (w4.alloc (.cells (Array.replicate 65 (.int .i64 0)) 74)) = .ok () (w4.alloc (.cells (rwC (R x)) 74)) :=
        run_storeCells_new w4 74 (Array.replicate 65 (.int .i64 0)) (rwC (R x)) (by rw [hc65]; exact rowZero.2) (by rw [hc65]; simp) (by simp [rwC, Value.oneCell'])
      have hcb := heap_alloc_new w4 (.cells (rwC (R x)) 74)
      have hbx5 : Below w4.heap.size w4 (w4.alloc (.cells (rwC (R x)) 74)) := bel_box _
      have HK5 := Lib.hid (HK4.out.below hbx5)
      have HO5 := Lib.hid (HO4.out.below hbx5)
      have HB5 := Lib.hid (HB4.out.trans (hbx5.mono HB4.out.size))
      clear hb4 hwf HKx HOx HBx hyl hbx5 HK4 HO4 HB4
      unfold rwV
      obtain ⟨c, hce⟩ : ∃ c, c = rwC (R x) := ⟨_, rfl⟩
      rw [← hce] at hst hcb hc65 HK5 HO5 HB5
      rw [← hce]
      have HCE := Lib.hid hce
      clear hce
      go_upto_region 7 with (fail)
      generalize w4.alloc (.cells c 74) = w5 at *
      clear hst hzr
      have HCB := Lib.hid hcb
      have hinfo : (Try.prog.info? 74).map (·.size) = some c.size := by rw [hc65]; exact rowZero.2
      have HInfo := Lib.hid hinfo
      clear hcb hinfo hc65
      have hcg : fillL (fun j => ((keysG R x).idxOf (R j) : Int)) a.next.length x = fillL (fun j => ((keysG R (x + 1)).idxOf (R j) : Int)) a.next.length x := fillL_congr' fun j hj => fill_cls R hj
      rw [hcg] at HO5
      have k1 := OI.at' HO5.out (by rw [fillL_len]) x (by rw [fillL_len]; exact hx)
      have ho := HO5.out
      unfold OI at ho
      rw [fillL_len] at ho
      have f1 : w5.frozen? ⟨C, x, none⟩ = false := World.ownsRow.frozenAt ho x
      have hC5 : C < w5.heap.size := HO5.out.lt' C rfl
      clear ho hcg
      have HST : Hid (∀ W, OI W C (.slice (some ⟨C, 0, none⟩) a.next.length a.next.length) (fillL (fun j => ((keysG R (x + 1)).idxOf (R j) : Int)) a.next.length x) → OI (W.setCell ⟨C, x, none⟩ (.int .i64 ((keysG R (x + 1)).idxOf (R x) : Int))) C (.slice (some ⟨C, 0, none⟩) a.next.length a.next.length) (fillL (fun j => ((keysG R (x + 1)).idxOf (R j) : Int)) a.next.length (x + 1))) := fun W h => by
        have h1 := OI.set h (by rw [fillL_len]) x ((keysG R (x + 1)).idxOf (R x) : Int)
        rwa [fillL_set (fun j => ((keysG R (x + 1)).idxOf (R j) : Int))] at h1
      have HSS : Hid (∀ W u, Only (fun q => q = C) W (W.setCell ⟨C, x, none⟩ u)) := fun W u => Only.set _ _ _ rfl
      have hwC : w.heap.size ≤ C := by have := HZP.out; omega
      by_cases hm : R x ∈ keysG R x
      · have hrun : (Instr.lookup 84 (.map (some (zp + 1))) (.agg c) true).run Try.prog w5 = .ok (.tuple #[.int .i64 ((keysG R x).idxOf (R x) : Int), .bool true]) w5 := by rw [HCE.out]; exact (HK5.out.get HWF.out).1 hm
        have hidx : (keysG R (x + 1)).idxOf (R x) = (keysG R x).idxOf (R x) := by rw [keysG_succ, if_pos hm]
        have HOn := Lib.hid (HST.out w5 HO5.out)
        rw [hidx] at HOn
        have HKn : Hid (NumR (w5.setCell ⟨C, x, none⟩ (.int .i64 ((keysG R x).idxOf (R x) : Int))) (zp + 1) (keysG R (x + 1))) := (key_step HK5.out hm).blk ((HSS.out w5 _).block _ HK5.out.lt (by omega))
        have HBn : Hid (Below w.heap.size w (w5.setCell ⟨C, x, none⟩ (.int .i64 ((keysG R x).idxOf (R x) : Int)))) := HB5.out.trans ((HSS.out w5 _).below _ (fun q e => by omega) HB5.out.size)
        clear hm hidx
        go_wp2_with (refine wpList_load_row rfl _ _ rfl w4.heap.size (by rfl) _ c _ _ HCB.out Try.underlying74 rfl HInfo.out ?_)
        go_roundg (a.next.length - (x + 1))
        case measure => have := HGX.out; omega
        case rel => exact ⟨x + 1, rfl, by go_num, by omega, HKn, HOn, HBn⟩
      · obtain ⟨c2, hrun0⟩ := (HK5.out.get HWF.out).2 hm
        have hrun : (Instr.lookup 84 (.map (some (zp + 1))) (.agg c) true).run Try.prog w5 = .ok (.tuple #[.int .i64 c2, .bool false]) w5 := by rw [HCE.out]; exact hrun0
        have hlen := fun ty => HK5.out.len ty
        obtain ⟨w6, hup0, hK6, hG6⟩ := HK5.out.upd HWF.out hm (by omega)
        have hup : (Instr.mapUpdate 84 (.map (some (zp + 1))) (.agg c) (.int .i64 ((keysG R x).length : Int))).run Try.prog w5 = .ok () w6 := by rw [HCE.out]; exact hup0
        have hidx : (keysG R (x + 1)).idxOf (R x) = (keysG R x).length := by rw [keysG_succ, if_neg hm, idxL_new hm]
        have ho6 : OI w6 C (.slice (some ⟨C, 0, none⟩) a.next.length a.next.length) (fillL (fun j => ((keysG R (x + 1)).idxOf (R j) : Int)) a.next.length x) := HO5.out.only (Only.of_grown hG6) fun q e1 e2 => by
          have e1 : C = q := Option.some.inj e1
          have e2 : zp + 1 = q := Option.some.inj e2
          omega
        have k2 := OI.at' ho6 (by rw [fillL_len]) x (by rw [fillL_len]; exact hx)
        have ho := ho6
        unfold OI at ho
        rw [fillL_len] at ho
        have f2 : w6.frozen? ⟨C, x, none⟩ = false := World.ownsRow.frozenAt ho x
        have HOn := Lib.hid (HST.out w6 ho6)
        rw [hidx] at HOn
        have HKn : Hid (NumR (w6.setCell ⟨C, x, none⟩ (.int .i64 ((keysG R x).length : Int))) (zp + 1) (keysG R (x + 1))) := by
          show NumR _ _ _
          rw [keysG_succ, if_neg hm]
          exact hK6.blk ((HSS.out w6 _).block _ hK6.lt (by omega))
        have HBn : Hid (Below w.heap.size w (w6.setCell ⟨C, x, none⟩ (.int .i64 ((keysG R x).length : Int)))) := (HB5.out.trans (below_of_grown hG6 (fun q e => by have e2 : zp + 1 = q := Option.some.inj e; have := HZP.out; omega) HB5.out.size)).trans ((HSS.out w6 _).below _ (fun q e => by omega) (by have := hG6.size; have := HB5.out.size; omega))
        clear hm hidx hrun0 hup0 hK6 hG6 ho ho6 k1 f1
        go_wp2_with (refine wpList_load_row rfl _ _ rfl w4.heap.size (by rfl) _ c _ _ HCB.out Try.underlying74 rfl HInfo.out ?_)
        go_roundg (a.next.length - (x + 1))
        case measure => have := HGX.out; omega
        case rel => exact ⟨x + 1, rfl, by go_num, by omega, HKn, HOn, HBn⟩
    · as_aux_lemma =>
      obtain rfl : x = a.next.length := by omega
      have hlen := fun ty => HKx.out.len ty
      have HF : Hid (OI wr w.heap.size (.slice (some ⟨C, 0, none⟩) a.next.length a.next.length) (classL R a.next.length)) := by
        have h := HOx.out.base (show w.heap.size ≤ C by have := HZP.out; omega)
        rw [fillL_all] at h
        exact h
      clear HOx HKx
      go_wp2
      go_ret2
      exact ⟨_, rfl, HF.out, HBx.out⟩

end Go.Proofs.Ytdkpdpcecjcmcaa
