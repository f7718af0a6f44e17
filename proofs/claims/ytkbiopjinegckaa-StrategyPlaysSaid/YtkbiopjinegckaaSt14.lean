/- What wins and Wins of strategies return. -/
import Derived.Test.YtkbiopjinegckaaSt12
import Derived.Test.YtkbiopjinegckaaSt13
namespace Go.Proofs.Ytkbiopjinegckaa
open Go.RowKit

set_option maxRecDepth 100000 in
set_option maxHeartbeats 4000000 in
theorem wins_c (gb nb ob n : Nat) (V : Nat → Value) (vp : Value) (prio : List Int) (nx : List (List Int)) (p : Int) (hx : GXn n prio nx p) (w : World) (vl : Value) (part : List Nat) (hpn : ∀ v ∈ part, v < n) (hp3 : part.length ≤ 3000)
    (hS : GS w gb nb ob n V vp prio nx (List.replicate n false)) (hl : KpO ob w vl (castL part)) :
    Calls Try.prog 37 #[.pointer (some ⟨gb, 0, none⟩), .int .i64 p, vl] w (ChkOut w gb nb ob n V vp prio nx p part) := by
  have hob := hS.lt
  have hb : Below w.heap.size w (((w.alloc (.cells #[.pointer (some ⟨gb, 0, none⟩)] 59)).alloc (.cells #[.int .i64 p] 3)).alloc (.cells #[.func (.func 45) #[] #[.pointer (some ⟨w.heap.size, 0, none⟩), .pointer (some ⟨w.heap.size + 1, 0, none⟩), .pointer (some ⟨w.heap.size + 1 + 1, 0, none⟩)]] 73)) := (by repeat (first | exact Below.refl _ _ | assumption | (refine belA ?_ _) | (refine belD ?_ _)))
  have HS := Lib.hid (hS.below hb)
  have HK : Hid (KpO ob _ vl (castL part)) := hl.step (Only.of_below hb)
  have HO : Hid (Only (fun k => k = ob) w _) := Only.of_below hb
  have HCk : Hid (Ck (((w.alloc (.cells #[.pointer (some ⟨gb, 0, none⟩)] 59)).alloc (.cells #[.int .i64 p] 3)).alloc (.cells #[.func (.func 45) #[] #[.pointer (some ⟨w.heap.size, 0, none⟩), .pointer (some ⟨w.heap.size + 1, 0, none⟩), .pointer (some ⟨w.heap.size + 1 + 1, 0, none⟩)]] 73)) w.heap.size (w.heap.size + 1) (w.heap.size + 1 + 1) gb ob p) :=
    ⟨(by (repeat (rw [alloc_get]; first | rw [if_pos (by first | (simp; done) | (simp; omega))] | rw [if_neg (by first | (simp; done) | (simp; omega))])); (try rfl)), (by (repeat (rw [alloc_get]; first | rw [if_pos (by first | (simp; done) | (simp; omega))] | rw [if_neg (by first | (simp; done) | (simp; omega))])); (try rfl)), (by (repeat (rw [alloc_get]; first | rw [if_pos (by first | (simp; done) | (simp; omega))] | rw [if_neg (by first | (simp; done) | (simp; omega))])); (try rfl)), by omega, by omega, by omega⟩
  have HX := Lib.hid hx
  clear hb hS hl hx
  go_enter Try.func37, Try.ntmps37
  go_wp2_with fail
  refine (check_c gb nb ob n V vp prio nx p _ _ _ HX.out (part.length + 1) _ vl part (by omega) hpn hp3 HS.out HK.out HCk.out).mono ?_
  rintro e w9 ⟨b, rfl, h1, h2, h3⟩
  have H := Lib.hid (show ChkOut w gb nb ob n V vp prio nx p part (.returned (.bool b)) w9 from ⟨b, rfl, h1, h2, HO.out.trans h3⟩)
  clear h1 h2 h3
  go_wp2
  go_ret
  exact H.out

theorem gxn_of {g : Gm} {p : Int} {set : List Bool} {s : List Int} (h : stB g p set s = true) : GXn set.length g.prio (nxS g p set s) p := by
  obtain ⟨h1, h2, h3, h4, h5⟩ := keeps_at h
  obtain ⟨l1, l2, l3⟩ := valid_lens h2
  refine ⟨by omega, by omega, fun v hv => (valid_at h2 v (by omega)).2.1, fun v hv x hx => ?_, by omega⟩
  rw [nxS_get hv] at hx
  have hk := h5 v (by omega)
  have hval := (valid_at h2 v (by omega)).2.2.2
  unfold rowS at hx
  cases hs : set.getD v false
  · rw [hs] at hx; cases hx
  · unfold keepsB at hk
    rw [hs, if_pos rfl] at hk hx
    by_cases ho : g.owner.getD v 0 = p
    · rw [if_pos ho] at hk hx
      simp only [Bool.and_eq_true, decide_eq_true_eq] at hk
      rw [List.mem_singleton.1 hx]
      have := hval _ hk.1
      omega
    · rw [if_neg ho] at hx
      have := hval _ hx
      omega

set_option maxRecDepth 100000 in
set_option maxHeartbeats 4000000 in
theorem Wins_c (w : World) (vg vs vt : Value) (g : Gm) (p : Int) (set : List Bool) (s : List Int) (hg : IsGame w vg g) (hs : IsBools w vs set) (ht : IsInts w vt s) :
    Calls Try.prog 15 #[vg, .int .i64 p, vs, vt] w (Calm (.bool (winB g p set s)) w) := by
  have HV : Hid (∀ W, Below w.heap.size w W → Calls Try.prog 13 #[vg, .int .i64 p, vs, vt] W (Calm (.bool (stB g p set s)) W)) := fun W hW => StValid_c W vg vs vt g p set s (hg.below hW) (hs.below hW) (ht.below hW)
  obtain ⟨v0, v1, v2, rfl, -, -, -⟩ := id hg
  have HG := Lib.hid hg
  have HS := Lib.hid hs
  have HT := Lib.hid ht
  clear hg hs ht
  cases hv : stB g p set s
  · have HW : Hid (winB g p set s = false) := by show _ = _; unfold winB; rw [hv]; rfl
    go_enter Try.func15, Try.ntmps15
    go_wp2_with fail
    refine (HV.out _ (by repeat (first | exact Below.refl _ _ | assumption | (refine belA ?_ _) | (refine belD ?_ _) | (refine Below.drew ?_)))).mono ?_
    rintro e w1 ⟨rfl, hb1⟩
    rw [hv]
    have hbx := (Boxed.start hb1).bl
    clear hv hb1
    go_wp2
    go_ret
    exact ⟨ret_bool HW.out.symm, hbx⟩
  · have HVT := Lib.hid hv
    go_enter Try.func15, Try.ntmps15
    go_wp2_with fail
    refine (HV.out _ (by repeat (first | exact Below.refl _ _ | assumption | (refine belA ?_ _) | (refine belD ?_ _) | (refine Below.drew ?_)))).mono ?_
    rintro e w1 ⟨rfl, hb1⟩
    rw [hv]
    have hbx := Boxed.start hb1
    have d0 := hbx.cell 0 rfl
    have d1 := hbx.cell 1 rfl
    have d2 := hbx.cell 2 rfl
    clear hv hb1
    go_wp2_with fail
    refine (newGraph_c w1 v0 v1 v2 vs vt g p set s (HG.out.below hbx.bl) (HS.out.below hbx.bl) (HT.out.below hbx.bl) HVT.out).mono ?_
    rintro e w2 ⟨gb, nb, ob, V, va, rfl, h1, h2, h3, h4⟩
    have HGS : Hid (GS w2 gb nb ob set.length V v1 g.prio (nxS g p set s) (List.replicate set.length false)) := ⟨fun W' hW => (h4 W' hW).1, h1, by simp⟩
    have HKp : Hid (KpO ob w2 va (castL (posL set set.length))) := fun W' hW => (h4 W' hW).2
    have hob := h3
    have HB2 := Lib.hid (hbx.bl.trans (h2.mono hbx.bl.size))
    have hwb : w.heap.size ≤ ob := Nat.le_trans hbx.bl.size h3
    clear d0 d1 d2 hbx h1 h2 h3 h4
    go_wp2_with fail
    refine (wins_c gb nb ob set.length V v1 g.prio (nxS g p set s) p (gxn_of HVT.out) w2 va (posL set set.length) (fun v hv => List.mem_range.1 (List.mem_filter.1 hv).1) ?_ HGS.out HKp.out).mono ?_
    · have h1 := (keeps_at HVT.out).2.2.1
      have h2 := (valid_lens (keeps_at HVT.out).2.1).1
      have := List.length_filter_le (fun v => set.getD v false) (List.range set.length)
      rw [List.length_range] at this
      unfold posL
      omega
    rintro e w9 ⟨b, rfl, h1, h2, h3⟩
    have HEnd : Hid (b = winB g p set s) := by
      show _ = _
      rw [Bool.eq_iff_iff, winB_iff, h1, ← (keeps_at HVT.out).2.2.1]
      exact ⟨fun h => ⟨HVT.out, h⟩, fun h => h.2⟩
    have hB9 : Below w.heap.size w w9 := HB2.out.trans (h3.below _ (by rintro k rfl; exact hwb) HB2.out.size)
    clear h1 h2 h3
    go_wp2
    go_ret
    exact ⟨ret_bool HEnd.out, hB9⟩

end Go.Proofs.Ytkbiopjinegckaa
