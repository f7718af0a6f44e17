/- What Reduce returns. -/
import Derived.Test.YtdkpdpcecjcmcaaQRd22
import Derived.Test.YtdkpdpcecjcmcaaQRd27
namespace Go.Proofs.Ytdkpdpcecjcmcaa
open Go.RowKit

noncomputable def reduceF (a : Au) : Au := trimF (mergeF (priosF (mergeF (trimF a))))
theorem ord_le {a : Au} (hv : validA a = true) : (ordA a).length ≤ a.next.length := (TrS.ord (AuV.of hv)).len
theorem trimF_n (a : Au) : (trimF a).next.length ≤ a.next.length := by
  unfold trimF
  by_cases hv : validA a = true
  · rw [if_pos hv]; have := ord_le hv; simpa [trimA] using this
  · rw [if_neg hv]; exact Nat.zero_le _
theorem mergeF_n (a : Au) : (mergeF a).next.length ≤ a.next.length := by
  unfold mergeF
  by_cases hv : validA a = true
  · rw [if_pos hv]; have := firstsC_len (clsA a) a.next.length; simpa [mergeA] using this
  · rw [if_neg hv]; exact Nat.zero_le _
theorem priosF_n (a : Au) : (priosF a).next.length ≤ a.next.length := by
  unfold priosF
  by_cases hv : validA a = true
  · rw [if_pos hv]; exact Nat.le_refl _
  · rw [if_neg hv]; exact Nat.zero_le _
theorem reduceF_n (a : Au) : (reduceF a).next.length ≤ a.next.length :=
  Nat.le_trans (trimF_n _) (Nat.le_trans (mergeF_n _) (Nat.le_trans (priosF_n _) (Nat.le_trans (mergeF_n _) (trimF_n a))))
/-- The last result is stored in the result's box. -/
theorem FA.pass {w W5 W : World} {pc : Array Value} {a : Au} {y x0 x1 x2 x3 : Value} (h : FA w W pc) (hK : KeepA W5 W y a) (hlt : w.heap.size + 1 < W5.heap.size) :
    NewAuto a w (.returned y) ((((W.setCell ⟨w.heap.size + 1, 0, none⟩ x0).setCell ⟨w.heap.size + 1, 1, none⟩ x1).setCell ⟨w.heap.size + 1, 2, none⟩ x2).setCell ⟨w.heap.size + 1, 3, none⟩ x3) :=
  h.fin fun W' hW => hK W' (((four_only (w.heap.size + 1) x0 x1 x2 x3).mono fun q _ (e : q = w.heap.size + 1) => by omega).trans (hW.mono fun q _ (e : q < w.heap.size) => by omega))

set_option maxRecDepth 100000 in
set_option maxHeartbeats 4000000 in
theorem Reduce_c (w : World) (v : Value) (a : Au) (ha : IsAuto w v a) (hn : a.next.length ≤ 2000) : Calls Try.prog 15 #[v] w (NewAuto (reduceF a) w) := by
  have HA := Lib.hid ha
  obtain ⟨vN, vP, rfl, hI, hN, hP⟩ := ha
  have hF := FA.start w #[.int .i64 a.letters, .int .i64 a.start, vN, vP]
  have HF := Lib.hid hF
  have HT := Lib.hid (Trim_c ((w.alloc (.cells #[.int .i64 a.letters, .int .i64 a.start, vN, vP] 24)).alloc (.cells #[.int .i64 0, .int .i64 0, .slice none 0 0, .slice none 0 0] 24)) _ a (HA.out.below hF.bl))
  have h1 := trimF_n a
  have h2 := mergeF_n (trimF a)
  have h3 := priosF_n (mergeF (trimF a))
  have h4 := mergeF_n (priosF (mergeF (trimF a)))
  obtain ⟨c0, c1, c2, c3⟩ := hF.cells
  clear hI hN hP hF
  go_enter Try.func15, Try.ntmps15
  go_upto_region 1 with (fail)
  generalize ((w.alloc (.cells #[.int .i64 a.letters, .int .i64 a.start, vN, vP] 24)).alloc (.cells #[.int .i64 0, .int .i64 0, .slice none 0 0, .slice none 0 0] 24)) = w2 at *
  have hr2 := HF.out.lt
  go_wp2_with fail
  refine HT.out.mono ?_
  rintro e w3 ⟨v3, rfl, hK3, hb3⟩
  have HM := Lib.hid (Merge_c w3 v3 _ (hK3 w3 (Only.refl _ _)))
  have HF3 := Lib.hid (HF.out.below hb3)
  clear hK3 hb3 HT HF c0 c1 c2 c3
  go_wp2_with fail
  refine HM.out.mono ?_
  rintro e w4 ⟨v4, rfl, hK4, hb4⟩
  have HQ := Lib.hid (Prios_c w4 v4 _ (hK4 w4 (Only.refl _ _)) (by omega))
  have HF4 := Lib.hid (HF3.out.below hb4)
  clear hK4 hb4 HM HF3
  go_wp2_with fail
  refine HQ.out.mono ?_
  rintro e w5 ⟨v5, rfl, hK5, hb5⟩
  have HM2 := Lib.hid (Merge_c w5 v5 _ (hK5 w5 (Only.refl _ _)))
  have HF5 := Lib.hid (HF4.out.below hb5)
  clear hK5 hb5 HQ HF4
  go_wp2_with fail
  refine HM2.out.mono ?_
  rintro e w6 ⟨v6, rfl, hK6, hb6⟩
  have HT2 := Lib.hid (Trim_c w6 v6 _ (hK6 w6 (Only.refl _ _)))
  have HF6 := Lib.hid (HF5.out.below hb6)
  clear hK6 hb6 HM2 HF5
  go_wp2_with fail
  refine HT2.out.mono ?_
  rintro e w7 ⟨v7, rfl, hK7, hb7⟩
  have HF7 := Lib.hid (HF6.out.below hb7)
  have hK7 : KeepA w6 w7 v7 (reduceF a) := hK7
  have HK7 := Lib.hid hK7
  obtain ⟨x2, x3, hv7, -, hx2, hx3⟩ := hK7 w7 (Only.refl _ _)
  obtain ⟨ax2, cx2, -, -, -, hx2, -⟩ := hx2.data
  obtain ⟨ax3, cx3, -, -, -, hx3, -⟩ := hx3.data
  have hr6 := HF6.out.lt
  clear hK7 hb7 HT2 HF6 h1 h2 h3 h4
  subst hx2 hx3
  subst hv7
  obtain ⟨⟨z0, z1, z2, z3⟩, y0, y1, y2, y3⟩ := HF7.out.zero
  go_wp2
  (have hc4 := four_set (a := Value.int .i64 (reduceF a).letters) (b := Value.int .i64 (reduceF a).start) (c := Value.slice ax2 (reduceF a).next.length cx2) (d := Value.slice ax3 (reduceF a).prio.length cx3) HF7.out.rc); (have c0 := cell_of_row _ _ 0 _ _ _ hc4); (have c1 := cell_of_row _ _ 1 _ _ _ hc4); (have c2 := cell_of_row _ _ 2 _ _ _ hc4); (have c3 := cell_of_row _ _ 3 _ _ _ hc4); (refine bodyPost_ret (v := .agg #[Value.int .i64 (reduceF a).letters, Value.int .i64 (reduceF a).start, Value.slice ax2 (reduceF a).next.length cx2, Value.slice ax3 (reduceF a).prio.length cx3]) (by simp [results, Try.results15, go_sem, c0, c1, c2, c3]) rfl ?_)
  exact HF7.out.pass HK7.out hr6

end Go.Proofs.Ytdkpdpcecjcmcaa
