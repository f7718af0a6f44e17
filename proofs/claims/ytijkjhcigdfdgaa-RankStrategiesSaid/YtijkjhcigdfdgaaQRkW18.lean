/- Measure. -/
import Derived.Test.YtijkjhcigdfdgaaQRkW17
namespace Go.Proofs.Ytijkjhcigdfdgaa
open Go.RowKit

theorem OC.base {w : World} {B B' : Nat} {v : Value} {l : List Int} (h : OC w B v l) (hb : B' ≤ B) : OC w B' v l := by
  refine ⟨h.1, ?_⟩
  rcases h.2 with hn | ⟨g, cap, cur, rfl, hB, rest⟩
  · exact .inl hn
  · exact .inr ⟨g, cap, cur, rfl, Nat.le_trans hb hB, rest⟩
theorem units_fit {mo : List Nat} (hl : mo.length ≤ 15001) (hT : topN mo ≤ 2000000) : (unitsL mo).length ≤ maxN ∧ ∀ x ∈ unitsL mo, I64 x := by
  refine ⟨by rw [units_len]; unfold maxN; omega, fun x hx => ?_⟩
  obtain ⟨i, -, rfl⟩ := List.mem_map.1 hx
  have := Nat.le_of_dvd (unit_pos mo 0) (unit_dv (mo := mo) (Nat.zero_le i))
  have h2 : unitN mo 0 ≤ 2000000 := hT
  unfold I64; omega
/-- A climb stays in its run. -/
theorem NC.cx {w w4 : World} {n d z bu ba ob : Nat} {v0 v1 v2 v3 : Value} {vals : List Value} {g : Gm} {mo : List Nat} (h : NC w w4 n d z bu ba ob v0 v1 v2 v3 vals (unitsL mo) (nsBf g n n)) (hg : IsGame w (.agg #[v0, v1, v2]) g) (hG : GOK g n (nsBf g n n)) (hl : mo.length ≤ 15001) (hT : topN mo ≤ 2000000) {W : World} (hW : Only (fun k => k = ba ∨ w4.heap.size ≤ k) w4 W) :
    CX W z ba n v0 v1 v2 v3 (.slice (some ⟨bu, 0, none⟩) (d + 1) (d + 1)) (.slice (some ⟨ob, 0, none⟩) n n) (fun j => vals.getD j undef) g mo (nsBf g n n) := by
  have hl4 := h.lt
  have hne := h.ne
  have hgt := h.gt
  have hB : Below w.heap.size w W := h.bx.trans (hW.below _ (fun k e => by have := h.bx.size; rcases e with e | e <;> omega) h.bx.size)
  have hu := units_fit hl hT
  have hn3 := hG.n3
  refine ⟨(hW.block _ hl4.1 (by omega)).trans h.box, hg.below hB, ?_, ?_, fun j hj => ?_⟩
  · exact (h.U.only hW fun k hk e => by have := ownB hk; omega).is hu.1 hu.2
  · refine ownsRow_arr (ownsRow_only h.R.o hW fun k hk e => by have := ownB hk; omega) (by unfold maxN; omega) _ fun j hj => ?_
    have : j < vals.length := by rw [h.R.lv]; exact hj
    rw [getD_lt _ _ _ this]; simp [this]
  · refine ((h.R.e j hj).only hW fun k hk e => ?_).is (by have := hG.bs j; unfold maxN; omega) fun x hx => ?_
    · have h1 := (h.x j hj k hk).2.2
      have h2 := (h.R.e j hj).lt' k hk
      omega
    · obtain ⟨v, rfl, hv⟩ := hG.bo.rg j x hx
      unfold I64; omega
theorem rowsF_congr {mo : List Nat} {f f' : Nat → Nat} {n : Nat} (h : ∀ v, v < n → f v = f' v) : rowsF mo f n = rowsF mo f' n := by
  unfold rowsF
  apply List.map_congr_left
  intro v hv
  rw [h v (List.mem_range.1 hv)]

set_option maxRecDepth 100000 in
set_option maxHeartbeats 8000000 in
theorem Measure_c (w : World) (vg : Value) (g : Gm) (p : Int) (hg : IsGame w vg g) (hL : LookH g) (hT : ∀ h, viewG g p = some h → ¬ 2000000 < workN h.owner.length (moG h) → topN (moG h) ≤ 2000000) :
    Calls Try.prog 11 #[vg, .int .i64 p] w (MeasOut g p w) := by
  have HC : Hid (∀ W, Below w.heap.size w W → Calls Try.prog 33 #[vg, .int .i64 p] W (LookOut g p W)) := fun W h => look_c W vg g p (hg.below h) hL.s hL.n hL.h
  have HWK : Hid (∀ W v h, viewG g p = some h → IsView W v h (moG h) → Calls Try.prog 34 #[v] W (Calm (.int .i64 (workN h.owner.length (moG h) : Int)) W)) := fun W v h e hv => work_c W v h _ hv (by have := valid_lens (view_valid e).1; omega) (mo_bd (view_valid e).1)
  have HSC : Hid (∀ h, viewG g p = some h → ∀ i, (h.succ.getD i []).length ≤ 1000) := fun h e => by
    unfold viewG at e
    split at e
    · split at e
      · obtain rfl := Option.some.inj e; exact hL.s
      · obtain rfl := Option.some.inj e; exact hL.s
    · cases e
  have HTT := Lib.hid hT
  obtain ⟨v0, v1, v2, rfl, -⟩ := hg
  clear hL hT
  have hB : Below w.heap.size w (w.alloc (.cells #[v0, v1, v2] 25)) := (by repeat (first | exact Below.refl _ _ | assumption | (refine belA ?_ _) | (refine belD ?_ _)))
  have hx : (w.alloc (.cells #[v0, v1, v2] 25)).heap[w.heap.size]? = some (.cells #[v0, v1, v2] 25 (0, 0)) := (by (repeat (rw [alloc_get]; first | rw [if_pos (by first | (simp; done) | (simp; omega))] | rw [if_neg (by first | (simp; done) | (simp; omega))])); (try rfl))
  go_enter Try.func11, Try.ntmps11
  go_upto_region 1 with (fail)
  generalize (w.alloc (.cells #[v0, v1, v2] 25)) = w1 at *
  have q0 := cell_of_row _ _ 0 _ _ _ hx
  have q1 := cell_of_row _ _ 1 _ _ _ hx
  have q2 := cell_of_row _ _ 2 _ _ _ hx
  have HB := Lib.hid hB
  clear hx hB
  go_wp2_with fail
  refine (HC.out _ HB.out).mono ?_
  intro e w2 ho
  clear q0 q1 q2
  cases hv : viewG g p with
  | none =>
    have HV : Hid (measG g p = ([], 1)) := by show _ = _; unfold measG; rw [hv]
    unfold LookOut at ho
    rw [hv] at ho
    obtain ⟨rfl, hb⟩ := ho
    have HB2 := Lib.hid (HB.out.trans (hb.mono HB.out.size))
    clear hb hv
    unfold nilView
    go_wp2
    go_ret2
    exact ⟨_, by rw [HV.out]; rfl, by rw [HV.out]; exact rows_none _, HB2.out.alloc HB2.out.size _⟩
  | some h =>
    have HV : Hid (measG g p = measV h) := by show _ = _; unfold measG; rw [hv]
    have HH := Lib.hid hv
    have HVH := Lib.hid (view_valid hv)
    unfold LookOut at ho
    rw [hv] at ho
    obtain ⟨v, rfl, hvv, hb⟩ := ho
    have HB2 := Lib.hid (HB.out.trans (hb.mono HB.out.size))
    have HVV := Lib.hid hvv
    obtain ⟨x0, x1, x2, x3, rfl, hgg, hgi⟩ := hvv
    have HGG := Lib.hid hgg
    have HGI := Lib.hid hgi
    obtain ⟨y0, z0, y1, z1, y2, z2, e3⟩ := hgg.shape
    obtain ⟨y3, z3, rfl⟩ := hgi.shape
    obtain ⟨rfl, rfl, rfl⟩ : x0 = _ ∧ x1 = _ ∧ x2 = _ := by simpa using e3
    have hB4 : Below w2.heap.size w2 (w2.alloc (.cells #[.slice y0 h.owner.length z0, .slice y1 h.prio.length z1, .slice y2 h.succ.length z2, .slice y3 (castM (moG h)).length z3] 49)) := bel_box _
    have HX4 : Hid ((w2.alloc (.cells #[.slice y0 h.owner.length z0, .slice y1 h.prio.length z1, .slice y2 h.succ.length z2, .slice y3 (castM (moG h)).length z3] 49)).heap[w2.heap.size]? = some (.cells #[.slice y0 h.owner.length z0, .slice y1 h.prio.length z1, .slice y2 h.succ.length z2, .slice y3 (castM (moG h)).length z3] 49 (0, 0))) := heap_alloc_new _ _
    have HB4 := Lib.hid (HB2.out.trans (hB4.mono HB2.out.size))
    have HV4 := Lib.hid (HVV.out.below hB4)
    have HG4 := Lib.hid (HGG.out.below hB4)
    have HI4 := Lib.hid (HGI.out.below hB4)
    have HC2 := Lib.hid (HWK.out _ _ h HH.out HV4.out)
    have HS := Lib.hid (HSC.out h HH.out)
    have HT := Lib.hid (HTT.out h HH.out)
    clear hB4 hb hv hgg hgi e3 HVV HGG HGI HC HWK HB2 HSC HTT
    go_upto_region 2 with (fail)
    generalize (w2.alloc (.cells #[.slice y0 h.owner.length z0, .slice y1 h.prio.length z1, .slice y2 h.succ.length z2, .slice y3 (castM (moG h)).length z3] 49)) = w3 at *
    generalize w2.heap.size = zb at *
    have q0 := cell_of_row _ _ 0 _ _ _ HX4.out
    have q1 := cell_of_row _ _ 1 _ _ _ HX4.out
    have q2 := cell_of_row _ _ 2 _ _ _ HX4.out
    have q3 := cell_of_row _ _ 3 _ _ _ HX4.out
    go_wp2_with fail
    refine HC2.out.mono ?_
    rintro e w4 ⟨rfl, hb⟩
    have HB5 := Lib.hid (HB4.out.trans (hb.mono HB4.out.size))
    have HG5 := Lib.hid (HG4.out.below hb)
    have HI5 := Lib.hid (HI4.out.below hb)
    replace q0 := cellB hb q0
    replace q1 := cellB hb q1
    replace q2 := cellB hb q2
    replace q3 := cellB hb q3
    clear hb HC2 HX4 HG4 HI4 HV4 HB4 HB
    by_cases hw : 2000000 < workN h.owner.length (moG h)
    · have HM := Lib.hid (measV_big hw)
      have t1 : (2000000 : Int) < (workN h.owner.length (moG h) : Int) := by omega
      clear hw
      generalize workN h.owner.length (moG h) = wk at *
      go_wp2
      go_ret2
      exact ⟨_, by rw [HV.out, HM.out]; rfl, by rw [HV.out, HM.out]; exact rows_none _, HB5.out⟩
    · have HM := Lib.hid (measV_ok hw)
      have hTop := HT.out hw
      have t1 : ¬ (2000000 : Int) < (workN h.owner.length (moG h) : Int) := by omega
      obtain ⟨la, lb, lc⟩ := valid_lens HVH.out.1
      have hE := re_valid HVH.out.1
      have hG := ns_gok HVH.out.1 HS.out
      have hmb := mo_bd HVH.out.1
      have hml : (moG h).length ≤ 15001 := by have := high_le HVH.out.1; rw [mo_len]; unfold partN; omega
      have HNW := Lib.hid (newClimb_c w4 _ _ _ _ h (moG h) h.owner.length HG5.out HI5.out rfl lb lc la HS.out hE hml hmb hTop)
      have HPV : Hid (∀ v, v < h.owner.length → (pri h v = (prN h v : Int) ∧ prN h v ≤ 30001) ∧ partN (prN h v) ≤ (moG h).length) := fun v hv => ⟨⟨(pri_valid HVH.out.1 hv).1, (pri_valid HVH.out.1 hv).2.1⟩, (pri_valid HVH.out.1 hv).2.2⟩
      have HLN : Hid (h.owner.length ≤ 3000 ∧ h.prio.length = h.owner.length ∧ h.succ.length = h.owner.length) := ⟨la, lb, lc⟩
      have HEE := Lib.hid hE
      have HGK := Lib.hid hG
      have HMB := Lib.hid hmb
      have HTP := Lib.hid hTop
      have HLF : Hid (∀ f, LeastP h h.owner.length (moG h) f → rowsF (moG h) (lfpF h (moG h)) h.owner.length = rowsF (moG h) f h.owner.length) := fun f hf => rowsF_congr fun v hv => lfp_eq hf hv
      rw [castM_len] at HNW HI5 q3 ⊢
      clear hw lb lc hE hG hmb hTop HS HT HVH HH
      generalize workN h.owner.length (moG h) = wk at *
      go_upto_region 6 with (fail)
      go_wp2_with fail
      refine HNW.out.mono ?_
      rintro e w5 ⟨z, bu, ba, ob, vals, rfl, hNC⟩
      have HNC := Lib.hid hNC
      have HB6 := Lib.hid (HB5.out.trans (hNC.bx.mono HB5.out.size))
      have hrun := crun_c w5 z ba h.owner.length _ _ _ _ _ _ _ h (moG h) (nsBf h h.owner.length h.owner.length) (fun W hW => hNC.cx HG5.out HGK.out hml HTP.out hW) (hNC.A.base (Nat.zero_le _)) hNC.lt.2.2.1 HEE.out rfl HLN.out.2.1 HLN.out.2.2 la HTP.out (fun v hv => (HPV.out v hv).1) (fun v hv => (HPV.out v hv).2) (fun u v hu hv he => by
        have h1 := HGK.out.bo.ct u v hu hv
        have h2 : 0 < (h.succ.getD v []).count (u : Int) := List.count_pos_iff.2 he
        exact List.count_pos_iff.1 (by omega)) (fun u hu x hx => HGK.out.bo.rg u x hx) HGK.out.bs
      have HRN := Lib.hid hrun
      have q5 := cell_of_row _ _ 5 _ _ _ hNC.box
      have hzl := hNC.lt.1
      have hbal := hNC.lt.2.2.1
      have hzb := hNC.ne
      have hzg := hNC.gt
      clear hNC hrun q0 q1 q2 q3 HNW HPV
      go_upto_region 7 with (fail)
      go_wp2_with fail
      refine HRN.out.mono ?_
      rintro e w6 ⟨f, rfl, hLP, hOC, hOn⟩
      have hX6 := HNC.out.cx HG5.out HGK.out hml HTP.out hOn
      have HX6 := Lib.hid hX6
      have HB46 : Hid (Below w4.heap.size w4 w6) := HNC.out.bx.trans (hOn.below _ (fun k e => by have := HNC.out.bx.size; rcases e with e | e <;> omega) HNC.out.bx.size)
      have HB7 := Lib.hid (HB5.out.trans (HB46.out.mono HB5.out.size))
      have HOC := Lib.hid hOC
      have HLP := Lib.hid (HLF.out f hLP)
      have HFB : Hid (∀ v, v < h.owner.length → f v ≤ topN (moG h)) := hLP.pm.le
      have HI6 : Hid (IsInts w6 (.slice y3 (moG h).length z3) (castM (moG h))) := HI5.out.below HB46.out
      have q5 := cell_of_row _ _ 5 _ _ _ hX6.box
      clear hX6 hLP hOC hOn HRN HNC HG5 HI5 HLF HB6 hzl hbal hzb hzg HEE HGK HB46
      have HWC : Hid (∀ W k, Below w6.heap.size w6 W → k < h.owner.length → Calls Try.prog 37 #[.pointer (some ⟨z, 0, none⟩), .int .i64 (f k : Int)] W (NewSet (digL (moG h) (f k)) W)) := fun W k hW hk =>
        write_c W z _ _ _ _ _ _ _ (moG h) (f k) ((hW.block _ (Array.getElem?_eq_some_iff.1 HX6.out.box).1).trans HX6.out.box) (HX6.out.u.below hW) (HI6.out.below hW) HMB.out hml HTP.out (HFB.out k hk)
      have hbs : w6.heap.size ≤ w6.heap.size := Nat.le_refl _
      have HDF := Lib.hid (dig_fit hml HMB.out)
      clear HX6 HI6 HFB HTP hml HMB
      generalize (moG h).length = dl at *
      have HN2 := Lib.hid HLN.out
      rw [HLN.out.2.1, HLN.out.2.2] at *
      clear HLN
      have HRF : Hid (∀ n, rowsF (moG h) f n = (List.range n).map fun v => digL (moG h) (f v)) := fun n => rfl
      obtain ⟨D, hD⟩ : ∃ D : Nat → List Int, ∀ v, D v = digL (moG h) (f v) := ⟨_, fun _ => rfl⟩
      have HDF2 : Hid (∀ v, (D v).length ≤ 15001 ∧ ∀ x ∈ D v, I64 x) := fun v => by rw [hD]; exact HDF.out (f v)
      simp only [← hD] at HWC HRF
      clear hD HDF
      generalize h.owner.length = n at *
      go_upto_region 8 with (fail)
      go_upto_region 9 with (at_make; refine mk_rowsI rfl _ _ _ Try.underlying23 rfl 0 n n rfl rfl rfl (by omega) (Nat.zero_le _) ?_; intro w7 hown7 hg7)
      have HB8 : Hid (Below w6.heap.size w6 w7) := (Below.refl _ _).grown hg7 (Nat.le_refl _) (fun k hk => by cases hk)
      have HR7 : Hid (RowL w7 0 (.slice (some ⟨w6.heap.size, 0, none⟩) n n) (List.replicate n (.slice none 0 0)) (doneV n 0 D [])) := by
        have := RowL.ofNil hown7
        rw [← done_zero]; exact this
      have q5r := cellB HB8.out q5
      clear hown7 hg7
      go_wp2_with fail
      clear q5r
      go_loopg [38] n (fun gh i wr => ∃ (k : Nat) (vals : List Value), gh = n - k ∧ i = .int .i64 (k : Int) ∧ k ≤ n ∧ Hid (RowL wr 0 (.slice (some ⟨w6.heap.size, 0, none⟩) n n) vals (doneV n k D [])) ∧ Hid (Below w6.heap.size w6 wr))
      case atStart => exact ⟨0, _, rfl, rfl, by omega, HR7, HB8⟩
      case round =>
        clear HR7 HB8
        obtain ⟨k, vals, hgk, rfl, hk, HR, HBr⟩ := hrel
        have HGN := Lib.hid hgk
        clear hgk
        by_cases hlt : k < n
        · as_aux_lemma =>
          have i1 : (k : Int) < (n : Int) := by omega
          have c1 := (HOC.out.below HBr.out).at' fL_len.symm k (by rw [fL_len]; exact hlt)
          rw [fL_at hlt] at c1
          have HWK := Lib.hid (HWC.out wr k HBr.out hlt)
          have hrl := (HR.out.lt w6.heap.size rfl).2
          generalize f k = fk at *
          go_upto_region 12 with (fail)
          go_wp2_with fail
          refine HWK.out.mono ?_
          rintro e w8 ⟨vx, rfl, hox, hb8⟩
          have HR8 := Lib.hid (HR.out.below hb8)
          have HB8 := Lib.hid (HBr.out.trans (hb8.mono HBr.out.size))
          have HA : Hid (Apart (.slice (some ⟨w6.heap.size, 0, none⟩) n n) vx) := Apart.of_lt (fun q hq => (HR.out.lt q hq).2) (fun q hq => hox.ge q hq)
          have HX8 := Lib.hid (hox.base (Nat.zero_le _))
          obtain ⟨ax, cx, rfl⟩ := HX8.out.slice
          have c8 := HR8.out.cell done_len hlt
          have f8 := HR8.out.fz done_len k
          have HRS : Hid (RowL (w8.setCell ⟨w6.heap.size, k, none⟩ (.slice ax (D k).length cx)) 0 (.slice (some ⟨w6.heap.size, 0, none⟩) n n) (vals.set k (.slice ax (D k).length cx)) (doneV n (k + 1) D [])) := by
            have := HR8.out.set done_len (j := k) HX8.out HA.out
            rw [done_set _ rfl] at this
            exact this
          clear hox hb8 c1
          generalize (D k).length = dk at *
          generalize vals.getD k undef = vk at *
          go_wp2
          go_roundg (n - (k + 1))
          case measure => have := HGN.out; omega
          case rel => exact ⟨k + 1, _, rfl, by go_num, by omega, HRS, HB8.out.trans ((Only.set (S := fun q => q = w6.heap.size) w6.heap.size k _ rfl).below _ (fun q e => by have e : q = w6.heap.size := e; omega) HB8.out.size)⟩
        · as_aux_lemma =>
          obtain rfl : k = n := by omega
          have i1 : ¬ (k : Int) < (k : Int) := by omega
          have HIS : Hid (IsRows wr (.slice (some ⟨w6.heap.size, 0, none⟩) k k) (rowsF (moG h) f k)) := by
            have := HR.out.is (by rw [done_len]; omega) fun j hj => by
              rw [done_len] at hj
              have : (doneV k k D []).getD j [] = D j := by simp [doneV, List.getD, hj]
              rw [this]
              have := HDF2.out j
              exact ⟨by omega, this.2⟩
            rw [done_all, ← HRF.out] at this
            exact this
          go_wp2
          go_ret2
          exact ⟨_, by rw [HV.out, HM.out]; rfl, by rw [HV.out, HM.out, HLP.out]; exact HIS.out, HB7.out.trans (HBr.out.mono HB7.out.size)⟩

end Go.Proofs.Ytijkjhcigdfdgaa
