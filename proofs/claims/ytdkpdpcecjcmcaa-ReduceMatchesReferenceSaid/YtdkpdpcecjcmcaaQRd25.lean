/- What the closures of classes return: rows. -/
import Derived.Laws.CopyOwn
import Derived.Test.YtdkpdpcecjcmcaaQRd24
namespace Go.Proofs.Ytdkpdpcecjcmcaa
open Go.RowKit

theorem run_storeCells_row (w : World) (g : Nat) (t : TypeId) (c c' : Array Value) (hg : w.heap[g]? = some (.cells c t (0, 0))) (hi : (Try.prog.info? t).map (·.size) = some c'.size) (ho : c.size = c'.size) (h1 : c'.all (·.oneCell') = true) :
    (storeCells ⟨g, 0, none⟩ c'.toList 0).run Try.prog w = .ok () (w.setRow g c') := by
  have := run_storeVar_row (P := Try.prog) w g t t c c' hg hi ho h1
  cases hq : Try.prog.info? t with
  | none => simp [hq] at hi
  | some i =>
    have hs : c'.size = i.size := by simp [hq] at hi; omega
    simpa [storeVar, sizeOf, typeInfo, hq, Value.cells, hs] using this
def pad65 (l : List Int) : List Int := l ++ List.replicate (65 - l.length) 0
theorem pad_len {l : List Int} (h : l.length ≤ 65) : (pad65 l).length = 65 := by unfold pad65; simp; omega
theorem pad_wf {l : List Int} (h : l.length ≤ 65) (hi : ∀ x ∈ l, I64 x) : WfR (pad65 l) := by
  refine ⟨pad_len h, fun x hx => ?_⟩
  unfold pad65 at hx
  rcases List.mem_append.1 hx with k | k
  · exact hi x k
  · rw [(List.mem_replicate.1 k).2]; unfold I64; omega
theorem pad_inj {l l' : List Int} (h : l.length = l'.length) (e : pad65 l = pad65 l') : l = l' := by
  unfold pad65 at e
  exact (List.append_inj e h).1
theorem splice_pad {l : List Int} (h : l.length ≤ 64) : splice ((List.replicate 65 (0 : Int)).map (Value.int .i64)) 1 (l.map (Value.int .i64)) = (pad65 (0 :: l)).map (Value.int .i64) := by
  have e : (List.replicate 65 (0 : Int)) = 0 :: (List.replicate l.length 0 ++ List.replicate (64 - l.length) 0) := by
    rw [List.replicate_append_replicate, show l.length + (64 - l.length) = 64 by omega]; rfl
  unfold splice pad65
  rw [e]
  simp only [List.map_cons, List.map_append, List.take_succ_cons, List.take_zero, List.length_map, List.length_cons, List.map_replicate]
  rw [show 1 + l.length = l.length + 1 by omega, List.drop_succ_cons, List.drop_left' (by simp)]
  rw [show 65 - (l.length + 1) = 64 - l.length by omega]
  rfl
theorem zero65 : Array.replicate 65 (Value.int .i64 0) = ((List.replicate 65 (0 : Int)).map (Value.int .i64)).toArray := Array.ext' (by rw [Array.toList_replicate, List.map_replicate])
theorem rwC_one (y : List Int) : (rwC y).all (·.oneCell') = true := by simp [rwC, Value.oneCell']

set_option maxRecDepth 100000 in
set_option maxHeartbeats 4000000 in
theorem cls1_c (W : World) (zc s : Nat) (a : Au) (c0 c1 c2 vP : Value) (k : Nat) (hx : W.heap[zc]? = some (.cells #[c0, c1, c2, vP] 24 (0, 0))) (hP : IsRows W vP a.prio) (hs : s < a.prio.length) (hl : (a.prio.getD s []).length = k) (hk : 1 ≤ k ∧ k ≤ 64) :
    Calls Try.prog 51 #[.int .i64 (s : Int), .pointer (some ⟨zc, 0, none⟩)] W (Calm (rwV (pad65 (0 :: a.prio.getD s []))) W) := by
  obtain ⟨aP, cP, bP, oP, VP, hvP, hdP, hmP, hVP⟩ := hP.data
  obtain rfl := hdP (by omega)
  obtain ⟨p1, p2⟩ := hVP s hs
  obtain ⟨aR, cR, hVs⟩ := p2.shape
  rw [hl] at hVs
  rw [hVs] at p1 p2
  subst hvP
  obtain ⟨bR, oR, had, hnR, hdt⟩ := p2.dat
  have HDT := Lib.hid hdt
  obtain rfl := had (by omega)
  have HL := Lib.hid hl
  have HRng := Lib.hid p2.2
  have hzr := rowZero.1
  have hb2 : Below W.heap.size W ((W.alloc (.cells (Array.replicate 65 (.int .i64 0)) 74)).alloc (.cells (Array.replicate 65 (.int .i64 0)) 74)) := by exact (by repeat (first | exact Below.refl _ _ | assumption | (refine belA ?_ _) | (refine belD ?_ _)))
  have q1 : ((W.alloc (.cells (Array.replicate 65 (.int .i64 0)) 74)).alloc (.cells (Array.replicate 65 (.int .i64 0)) 74)).cell? ⟨zc, 3, none⟩ = some (.slice (some ⟨bP, oP, none⟩) a.prio.length cP) := cellB hb2 (cell_of_row _ _ 3 _ _ _ hx)
  have q2 := cellB hb2 p1
  have hs2 : (s : Int) < a.prio.length := by omega
  have hz4 : ((W.alloc (.cells (Array.replicate 65 (.int .i64 0)) 74)).alloc (.cells (Array.replicate 65 (.int .i64 0)) 74)).heap[W.heap.size + 1]? = some (.cells (Array.replicate 65 (.int .i64 0)) 74 (0, 0)) := by
    have := heap_alloc_new (W.alloc (.cells (Array.replicate 65 (.int .i64 0)) 74)) (.cells (Array.replicate 65 (.int .i64 0)) 74)
    simpa using this
  have hz3 : ((W.alloc (.cells (Array.replicate 65 (.int .i64 0)) 74)).alloc (.cells (Array.replicate 65 (.int .i64 0)) 74)).heap[W.heap.size]? = some (.cells (Array.replicate 65 (.int .i64 0)) 74 (0, 0)) := ((bel_box _).block _ (by simp)).trans (heap_alloc_new _ _)
  have HB2 := Lib.hid hb2
  have HZ4 := Lib.hid hz4
  have HZ3 := Lib.hid hz3
  clear hb2 hz4 hz3 hdt had hl p1 p2 hP hVP hdP hx hVs
  go_enter Try.func51, Try.ntmps51
  go_upto_region 2 with (fail)
  generalize (W.alloc (.cells (Array.replicate 65 (.int .i64 0)) 74)).alloc (.cells (Array.replicate 65 (.int .i64 0)) 74) = w2 at *
  clear hzr
  have HI64 : Hid ((Try.prog.info? 3).map (·.size) = some 1) := by show _ = _; kernel_rfl
  have hlen : (a.prio.getD s []).length ≤ 64 := by have := HL.out; omega
  have HSp := Lib.hid (splice_pad hlen)
  obtain ⟨cs, hcs⟩ : ∃ cs, cs = (a.prio.getD s []).map (Value.int .i64) := ⟨_, rfl⟩
  have hcl : cs.length = k := by rw [hcs, List.length_map]; exact HL.out
  have HC1 : Hid (∀ v ∈ cs, v.oneCell' = true) := fun v hv => by rw [hcs] at hv; obtain ⟨x, _, rfl⟩ := List.mem_map.1 hv; rfl
  have HSrc : Hid (∀ W', Below W.heap.size W W' → ∀ j v, cs[j]? = some v → W'.cell? ((⟨bR, oR, none⟩ : Addr).add j) = some v) := fun W' hW j v hj => by
    rw [hcs] at hj
    simp only [List.getElem?_map, Option.map_eq_some_iff] at hj
    obtain ⟨x, hx, rfl⟩ := hj
    obtain ⟨hlt, rfl⟩ := List.getElem?_eq_some_iff.1 hx
    have := cellB hW (HDT.out j (by have := HL.out; omega))
    rw [getD_lt _ _ _ hlt] at this
    unfold Addr.add
    split
    · subst j; exact this
    · exact this
  rw [← hcs] at HSp
  have HCS := Lib.hid hcs
  have HW2 : Hid (w2.heap[W.heap.size + 1]? = some (.cells ((List.replicate 65 (0 : Int)).map (Value.int .i64)).toArray 74 (0, 0))) := by show _ = _; rw [← zero65]; exact HZ4.out
  have hzz : W.heap.size + 1 < w2.heap.size := (Array.getElem?_eq_some_iff.1 HZ4.out).1
  obtain ⟨z4, hz4⟩ : ∃ z4, z4 = W.heap.size + 1 := ⟨_, rfl⟩
  rw [← hz4] at HW2 hzz
  rw [← hz4]
  have HZ := Lib.hid hz4
  clear hcs hz4 hlen HZ4
  go_cut [] (fun wx => ∃ wz : World, wz = wx ∧ Hid (wz.heap[z4]? = some (.cells (rwC (pad65 (0 :: a.prio.getD s []))) 74 (0, 0))) ∧ Hid (wz.heap[W.heap.size]? = some (.cells (Array.replicate 65 (.int .i64 0)) 74 (0, 0))) ∧ Hid (Below W.heap.size W wz))
  case first =>
    go_region_law (refine step_copy_splice (by rfl) (.tmp 5) (.tmp 10) _ _ (by rfl) _ Try.underlying29 HI64.out _ _ _ _ _ _ (by rfl) (by rfl) z4 1 ((List.replicate 65 (0 : Int)).map (Value.int .i64)) _ HW2.out cs (by rw [hcl]; exact (Nat.min_eq_left (by omega)).symm) (fun h => ⟨by rfl, _, by rfl, HSrc.out _ (Below.drew HB2.out)⟩) (by rw [hcl]; simp; omega) HC1.out z4 w2 (Below.drew (Below.refl _ _)) (Nat.le_refl _) ?_; intro w3 HW3 hB3)
    all_goals
      have HW3 : Hid (w3.heap[z4]? = some (.cells (rwC (pad65 (0 :: a.prio.getD s []))) 74 (0, 0))) := by
        have h := HW3.out
        rw [HSp.out] at h
        exact h
      have HZ3n : Hid (w3.heap[W.heap.size]? = some (.cells (Array.replicate 65 (.int .i64 0)) 74 (0, 0))) := (hB3.block _ (by have := HZ.out; omega)).trans HZ3.out
      have HBn : Hid (Below W.heap.size W w3) := HB2.out.trans (hB3.mono (by have := HZ.out; omega))
      clear hB3
      go_wp2
      go_meet
      case rel => exact ⟨w3, rfl, HW3, HZ3n, HBn⟩
  case rest =>
    obtain ⟨wz, rfl, HW4, HZ4, HB4⟩ := hcut
    clear HW2 HZ3 HB2 HSp HSrc hcl HC1 hzz q1 q2
    have hwf := (pad_wf (l := 0 :: a.prio.getD s []) (by rw [List.length_cons, HL.out]; omega) (fun x hx => by
      rcases List.mem_cons.1 hx with e | e
      · rw [e]; unfold I64; omega
      · obtain ⟨j, hj, rfl⟩ := List.getElem_of_mem e
        exact HRng.out _ (List.getElem_mem hj))).1
    have hc65 : (rwC (pad65 (0 :: a.prio.getD s []))).size = 65 := by rw [rwC_size]; exact hwf
    have hinfo : (Try.prog.info? 74).map (·.size) = some (rwC (pad65 (0 :: a.prio.getD s []))).size := by rw [hc65]; exact rowZero.2
    have hst := run_storeCells_row wz W.heap.size 74 (Array.replicate 65 (.int .i64 0)) (rwC (pad65 (0 :: a.prio.getD s []))) HZ4.out hinfo (by rw [hc65]; simp) (rwC_one _)
    have hres := setRow_heap wz W.heap.size _ (rwC (pad65 (0 :: a.prio.getD s []))) 74 _ HZ4.out
    have HF : Hid (Below W.heap.size W (wz.setRow W.heap.size (rwC (pad65 (0 :: a.prio.getD s []))))) := below_setRow HB4.out (Nat.le_refl _) _
    have HRes := Lib.hid hres
    have HInfo := Lib.hid hinfo
    generalize hce : rwC (pad65 (0 :: a.prio.getD s [])) = c at *
    have HCE := Lib.hid hce
    clear hce
    clear hres hinfo hwf HZ4 HB4
    go_wp2_with (refine wpList_load_row rfl _ _ rfl z4 (by rfl) _ c _ _ HW4.out Try.underlying74 rfl HInfo.out ?_)
    refine bodyPost_ret (results_cell_row rfl _ _ W.heap.size _ c _ _ rfl HRes.out Try.underlying74 rfl HInfo.out) rfl ?_
    exact ⟨by unfold rwV; rw [HCE.out], HF.out⟩

/-- The row while it is filled: x numbers behind the first one. -/
def padF (c : Int) (r : List Int) (x : Nat) : List Int := pad65 (c :: r.take x)
theorem padF_step {c : Int} {r : List Int} {x : Nat} (hx : x < r.length) (hl : r.length ≤ 64) : (padF c r x).set (1 + x) (r.getD x 0) = padF c r (x + 1) := by
  have e1 : (r.take x).length = x := by rw [List.length_take]; omega
  have e2 : (r.take (x + 1)).length = x + 1 := by rw [List.length_take]; omega
  unfold padF pad65
  rw [List.length_cons, List.length_cons, e1, e2, List.take_succ_eq_append_getElem hx, getD_lt _ _ _ hx]
  rw [show 65 - (x + 1) = (65 - (x + 1 + 1)) + 1 by omega, List.replicate_succ, show 1 + x = x + 1 by omega]
  rw [List.cons_append, List.set_cons_succ, List.set_append_right _ _ (by omega), e1, Nat.sub_self, List.set_cons_zero, List.cons_append, List.append_assoc]
  rfl
theorem padF_len {c : Int} {r : List Int} {x : Nat} (hl : r.length ≤ 64) : (padF c r x).length = 65 := pad_len (by rw [List.length_cons, List.length_take]; omega)
theorem padF_all (c : Int) (r : List Int) : padF c r r.length = pad65 (c :: r) := by unfold padF; rw [List.take_length]
theorem rwC_set (y : List Int) (j : Nat) (v : Int) : (rwC y).setIfInBounds j (.int .i64 v) = rwC (y.set j v) := by
  unfold rwC
  rw [List.setIfInBounds_toArray, List.map_set]

set_option maxRecDepth 100000 in
set_option maxHeartbeats 4000000 in
theorem cls2_c (W : World) (zd zc s : Nat) (a : Au) (c : List Int) (x0 : Int) (c1 vN c3 vc : Value) (k : Nat) (hx : W.heap[zc]? = some (.cells #[.int .i64 x0, c1, vN, c3] 24 (0, 0))) (hd : W.heap[zd]? = some (.cells #[vc] 29 (0, 0)))
    (hN : IsRows W vN a.next) (hc : IsInts W vc c) (hA : AuV a k) (hcl : c.length = a.next.length) (hs : s < a.next.length) :
    Calls Try.prog 52 #[.int .i64 (s : Int), .pointer (some ⟨zd, 0, none⟩), .pointer (some ⟨zc, 0, none⟩)] W (Calm (rwV (pad65 (rowG a c s))) W) := by
  obtain ⟨aN, cN, bN, oN, VN, hvN, hdN, hmN, hVN⟩ := hN.data
  obtain rfl := hdN (by omega)
  obtain ⟨p1, p2⟩ := hVN s hs
  obtain ⟨aR, cR, hVs⟩ := p2.shape
  have hk := hA.k1
  rw [(hA.ln s hs).1] at hVs
  rw [hVs] at p1 p2
  subst hvN
  obtain ⟨bR, oR, had, hnR, hdt⟩ := p2.dat
  obtain rfl := had (by omega)
  obtain ⟨aC, cC, hvc⟩ := hc.shape
  rw [hcl] at hvc
  subst hvc
  obtain ⟨bC, oC, had2, hnC, hdc⟩ := hc.dat
  obtain rfl := had2 (by omega)
  have HDT := Lib.hid hdt
  have HDC := Lib.hid hdc
  have HL := Lib.hid (hA.ln s hs).1
  have HA := Lib.hid hA
  have HR := Lib.hid hc.2
  have HCL := Lib.hid hcl
  have hzr := rowZero.1
  have hs2 : (s : Int) < a.next.length := by omega
  have q0 := cell_of_row _ _ 0 _ _ _ hd
  have q1 := hdc s (by omega)
  have HD := Lib.hid hd
  have HX := Lib.hid hx
  have hb1 : Below W.heap.size W (W.alloc (.cells (Array.replicate 65 (.int .i64 0)) 74)) := bel_box _
  have q0 := cellB hb1 q0
  have q1 := cellB hb1 q1
  have HZ3 := Lib.hid (heap_alloc_new W (.cells (Array.replicate 65 (.int .i64 0)) 74))
  have HP1 := Lib.hid p1
  have HB1 := Lib.hid hb1
  clear hb1 hdt had p1 p2 hN hVN hdN hx hVs hd had2 hdc hA hcl hc
  go_enter Try.func52, Try.ntmps52
  go_upto_region 1 with (fail)
  generalize W.alloc (.cells (Array.replicate 65 (.int .i64 0)) 74) = w1 at *
  generalize hce : c.getD s 0 = c0 at *
  have HRow : Hid ((Array.replicate 65 (Value.int .i64 0)).setIfInBounds 0 (.int .i64 c0) = rwC (padF c0 ((a.next.getD s []).map fun y => c.getD y.toNat 0) 0)) := by
    show _ = _
    rw [zero65]
    show (rwC (List.replicate 65 0)).setIfInBounds 0 (.int .i64 c0) = _
    rw [rwC_set]
    congr 1
  have hsz : ((Array.replicate 65 (Value.int .i64 0)).setIfInBounds 0 (.int .i64 c0)).size = 65 := by simp
  have hinfo : (Try.prog.info? 74).map (·.size) = some ((Array.replicate 65 (Value.int .i64 0)).setIfInBounds 0 (.int .i64 c0)).size := by rw [hsz]; exact rowZero.2
  have hold : (Array.replicate 65 (Value.int .i64 0)).size = ((Array.replicate 65 (Value.int .i64 0)).setIfInBounds 0 (.int .i64 c0)).size := by rw [hsz]; simp
  have HInfo := Lib.hid hinfo
  have HOld := Lib.hid hold
  have HOne : Hid (((Array.replicate 65 (Value.int .i64 0)).setIfInBounds 0 (.int .i64 c0)).all (·.oneCell') = true) := by show _ = _; rw [HRow.out]; exact rwC_one _
  have hz5 : W.heap.size < w1.heap.size := (Array.getElem?_eq_some_iff.1 HZ3.out).1
  clear hinfo hold hsz
  have HX2 : Hid (w1.heap[zc]? = some (.cells #[.int .i64 x0, c1, .slice (some ⟨bN, oN, none⟩) a.next.length cN, c3] 24 (0, 0))) := (HB1.out.block _ (Array.getElem?_eq_some_iff.1 HX.out).1).trans HX.out
  go_upto_region 2 with (refine wpList_store_row rfl 74 _ _ rfl w1.heap.size ((Array.replicate 65 (Value.int .i64 0)).setIfInBounds 0 (.int .i64 c0)) (by rfl) (by rfl) 74 (Array.replicate 65 (.int .i64 0)) (heap_alloc_new _ _) HInfo.out HOld.out HOne.out ?_)
  have hH5 := setRow_heap (w1.alloc (.cells (Array.replicate 65 (.int .i64 0)) 74)) w1.heap.size _ ((Array.replicate 65 (Value.int .i64 0)).setIfInBounds 0 (.int .i64 c0)) 74 _ (heap_alloc_new _ _)
  rw [HRow.out] at hH5 ⊢
  have HB5 : Hid (Below w1.heap.size w1 ((w1.alloc (.cells (Array.replicate 65 (.int .i64 0)) 74)).setRow w1.heap.size (rwC (padF c0 ((a.next.getD s []).map fun y => c.getD y.toNat 0) 0)))) := below_setRow (bel_box _) (Nat.le_refl _) _
  have HH5 := Lib.hid hH5
  clear hH5 HRow HInfo HOld HOne q0 q1 hzr
  obtain ⟨z5, hz5e⟩ : ∃ z5, z5 = w1.heap.size := ⟨_, rfl⟩
  generalize (w1.alloc (.cells (Array.replicate 65 (.int .i64 0)) 74)).setRow w1.heap.size (rwC (padF c0 ((a.next.getD s []).map fun y => c.getD y.toNat 0) 0)) = w5 at *
  rw [← hz5e] at HB5 HH5 hz5
  rw [← hz5e]
  have HZ5 := Lib.hid hz5e
  have HCE := Lib.hid hce
  obtain ⟨mp, hmp⟩ : ∃ mp, mp = (a.next.getD s []).map (fun y => c.getD y.toNat 0) := ⟨_, rfl⟩
  rw [← hmp] at HH5
  rw [← hmp]
  have hml : mp.length = k := by rw [hmp, List.length_map]; exact HL.out
  have HML := Lib.hid hml
  have HMP := Lib.hid hmp
  clear hz5e hce hmp hml
  have HH0 := HH5
  generalize rwC (padF c0 mp 0) = ag at HH5 ⊢
  have HBW : Hid (∀ W', Only (fun q => q = z5) w5 W' → Below W.heap.size W W') := fun W' hW => (HB1.out.trans (HB5.out.mono (by omega))).trans (hW.below _ (fun q e => by omega) (by have h1 := HB1.out.size; have h2 := HB5.out.size; omega))
  have n2 : w5.cell? ⟨zc, 2, none⟩ = some (.slice (some ⟨bN, oN, none⟩) a.next.length cN) := cellB (HBW.out w5 (Only.refl _ _)) (cell_of_row _ _ 2 _ _ _ HX.out)
  have n3 := cellB (HBW.out w5 (Only.refl _ _)) HP1.out
  have hk0 : (0 : Int) ≤ (k : Int) := by omega
  go_wp2
  clear n2 n3
  go_loopg [19] k (fun gh i wx => ∃ x : Nat, gh = k - x ∧ i = .int .i64 (x : Int) ∧ x ≤ k ∧ Hid (wx.heap[z5]? = some (.cells (rwC (padF c0 mp x)) 74 (0, 0))) ∧ Hid (Only (fun q => q = z5) w5 wx))
  case atStart => exact ⟨0, rfl, rfl, by omega, HH0, Only.refl _ _⟩
  case round =>
    obtain ⟨x, hgx, rfl, hxk, HHx, HOx⟩ := hrel
    have HGX := Lib.hid hgx
    have HBx := Lib.hid (HBW.out wr HOx.out)
    clear hgx HH5 HH0
    by_cases hx : x < k
    · as_aux_lemma =>
      have hx2 : (x : Int) < k := by omega
      have r1 := cellB HBx.out (HDT.out x hx)
      have hy := HA.out.nx s x hs hx
      have hmx : mp.getD x 0 = c.getD ((a.next.getD s []).getD x 0).toNat 0 := by rw [HMP.out, map_getD (by have := HL.out; omega)]
      generalize (a.next.getD s []).getD x 0 = y at *
      obtain ⟨t, rfl⟩ : ∃ t : Nat, y = (t : Int) := ⟨y.toNat, by omega⟩
      rw [Int.toNat_natCast] at hmx
      have ht2 : (t : Int) < a.next.length := hy.2
      have r2 := cellB HBx.out (HDC.out t (by omega))
      rw [← hmx] at r2
      have d0 := cellB HBx.out (cell_of_row _ _ 0 _ _ _ HD.out)
      have hlen := padF_len (c := c0) (r := mp) (x := x) (by have := HML.out; omega)
      have k1 : wr.cell? ⟨z5, 1 + x, none⟩ = some (.int .i64 ((padF c0 mp x).getD (1 + x) 0)) := by
        rw [cell_of_row _ _ (1 + x) _ _ _ HHx.out]
        unfold rwC
        rw [List.getElem?_toArray, List.getElem?_map, List.getElem?_eq_getElem (by omega), getD_lt _ _ _ (by omega)]
        rfl
      have f1 : wr.frozen? ⟨z5, 1 + x, none⟩ = false := frozen_of_row _ _ (1 + x) _ _ HHx.out
      have HHn : Hid ((wr.setCell ⟨z5, 1 + x, none⟩ (.int .i64 (mp.getD x 0))).heap[z5]? = some (.cells (rwC (padF c0 mp (x + 1))) 74 (0, 0))) := by
        have h := heap_setCell_same _ _ (1 + x) _ _ (.int .i64 (mp.getD x 0)) HHx.out
        rw [rwC_set, padF_step (by have := HML.out; omega) (by have := HML.out; omega)] at h
        exact h
      have HOn : Hid (Only (fun q => q = z5) w5 (wr.setCell ⟨z5, 1 + x, none⟩ (.int .i64 (mp.getD x 0)))) := HOx.out.trans (Only.set _ _ _ rfl)
      have hb65 : (1 : Int) + (x : Int) < 65 := by omega
      generalize (padF c0 mp x).getD (1 + x) 0 = old at *
      generalize mp.getD x 0 = nv at *
      clear hmx hy hlen
      go_wp2
      go_roundg (k - (x + 1))
      case measure => have := HGX.out; omega
      case rel => exact ⟨x + 1, rfl, by go_num, by omega, HHn, HOn⟩
    · as_aux_lemma =>
      obtain rfl : x = k := by omega
      have HZr : Hid (wr.heap[W.heap.size]? = some (.cells (Array.replicate 65 (.int .i64 0)) 74 (0, 0))) := by
        refine (HOx.out.block _ ?_ (by omega)).trans ((HB5.out.block _ hz5).trans HZ3.out)
        have := HB5.out.size
        have := HZ5.out
        omega
      have hpl : (padF c0 mp x).length = 65 := padF_len (by have := HML.out; omega)
      have HPA : Hid (padF c0 mp x = pad65 (rowG a c s)) := by
        show _ = _
        have h := padF_all c0 mp
        rw [HML.out] at h
        rw [h, HMP.out]
        unfold rowG
        rw [HCE.out]
      have hc65 : (rwC (padF c0 mp x)).size = 65 := by rw [rwC_size]; exact hpl
      have hinfo : (Try.prog.info? 74).map (·.size) = some (rwC (padF c0 mp x)).size := by rw [hc65]; exact rowZero.2
      have hst := run_storeCells_row wr W.heap.size 74 (Array.replicate 65 (.int .i64 0)) (rwC (padF c0 mp x)) HZr.out hinfo (by rw [hc65]; simp) (rwC_one _)
      have hres := setRow_heap wr W.heap.size _ (rwC (padF c0 mp x)) 74 _ HZr.out
      have HF : Hid (Below W.heap.size W (wr.setRow W.heap.size (rwC (padF c0 mp x)))) := below_setRow HBx.out (Nat.le_refl _) _
      have HRes := Lib.hid hres
      have HInfo := Lib.hid hinfo
      have HV : Hid (rwV (pad65 (rowG a c s)) = .agg (rwC (padF c0 mp x))) := by show _ = _; unfold rwV; rw [HPA.out]
      clear hres hinfo hpl HZr
      generalize rwC (padF c0 mp x) = cc at *
      go_wp2_with (refine wpList_load_row rfl _ _ rfl z5 (by rfl) _ cc _ _ HHx.out Try.underlying74 rfl HInfo.out ?_)
      refine bodyPost_ret (results_cell_row rfl _ _ W.heap.size _ cc _ _ rfl HRes.out Try.underlying74 rfl HInfo.out) rfl ?_
      exact ⟨by rw [HV.out], HF.out⟩

end Go.Proofs.Ytdkpdpcecjcmcaa
