/- A view of a valid game is a game whose bounds are those of its odd priorities (plain). Work, Valid. -/
import Derived.Test.YtijkjhcigdfdgaaQRkP4
import Derived.Test.YtijkjhcigdfdgaaQRkW6
namespace Go.Proofs.Ytijkjhcigdfdgaa

theorem view_valid {g h : Gm} {p : Int} (e : viewG g p = some h) : validB h = true ∧ h.owner.length = g.owner.length ∧ (p = 0 ∨ p = 1) ∧ validB g = true := by
  unfold viewG at e
  by_cases hc : (p = 0 ∨ p = 1) ∧ validB g = true ∧ highG g ≠ 30000
  · rw [if_pos hc] at e
    obtain ⟨h1, h2, h3⟩ := hc
    obtain ⟨la, lb, lc⟩ := valid_lens h2
    by_cases hp : p = 1
    · rw [if_pos hp] at e
      obtain rfl := Option.some.inj e
      refine ⟨swap_valid h2 fun i hi => ?_, by simp [swapG], h1, h2⟩
      have h4 := (valid_at h2 i hi).2.1
      have h5 : g.prio.getD i 0 ≤ highG g := high_ge (by rw [getD_lt _ _ _ (by omega)]; exact List.getElem_mem _)
      have h6 : highG g ≤ 30000 := by
        rcases high_in g with h | h
        · omega
        · obtain ⟨j, hj, ej⟩ := List.getElem_of_mem h
          have := (valid_at h2 j (by omega)).2.1
          rw [getD_lt _ _ _ hj, ej] at this
          omega
      omega
    · rw [if_neg hp] at e
      obtain rfl := Option.some.inj e
      exact ⟨h2, rfl, h1, h2⟩
  · rw [if_neg hc] at e; simp at e
theorem filter_range {l : List Int} {p : Int → Bool} : (l.filter p).length = ((List.range l.length).filter fun v => p (l.getD v 0)).length := by
  have e : l = (List.range l.length).map fun v => l.getD v 0 := by
    apply List.ext_getElem (by simp)
    intro i h1 h2
    simp [h1]
  conv => lhs; rw [e]
  rw [List.filter_map, List.length_map]
  rfl
section
variable {g : Gm}
theorem re_valid (h : validB g = true) : RE g g.owner.length := by
  refine ⟨fun v hv x hx => ?_, fun v hv => (valid_at h v hv).2.2.1, fun v hv => ?_⟩
  · have := (valid_at h v hv).2.2.2 x hx
    exact ⟨x.toNat, by omega, by omega⟩
  · have := (valid_at h v hv).1
    unfold own; omega
theorem pri_valid (h : validB g = true) {v : Nat} (hv : v < g.owner.length) : pri g v = (prN g v : Int) ∧ prN g v ≤ 30001 ∧ partN (prN g v) ≤ (moG g).length := by
  obtain ⟨la, lb, lc⟩ := valid_lens h
  have h1 := (valid_at h v hv).2.1
  have h2 : g.prio.getD v 0 ≤ highG g := high_ge (by rw [getD_lt _ _ _ (by omega)]; exact List.getElem_mem _)
  have e : prN g v = (g.prio.getD v 0).toNat := rfl
  have e2 : pri g v = g.prio.getD v 0 := rfl
  refine ⟨by rw [e2, e]; omega, by omega, ?_⟩
  rw [mo_len]; unfold partN; omega
theorem rg_valid (h : validB g = true) : RG g g.owner.length (moG g) := by
  obtain ⟨la, lb, lc⟩ := valid_lens h
  refine ⟨fun v hv => ⟨(pri_valid h hv).1, (pri_valid h hv).2.2⟩, fun v hv j hj => ?_, fun v hv => ?_, fun k hk => ?_, (re_valid h).ow⟩
  · have := (valid_at h v hv).2.2.2 _ hj
    omega
  · obtain ⟨x, hx⟩ := List.exists_mem_of_ne_nil _ (valid_at h v hv).2.2.1
    obtain ⟨j, rfl, -⟩ := (re_valid h).ed v hv x hx
    exact ⟨j, hx⟩
  · rw [mo_at hk]
    unfold cntP
    rw [filter_range, lb]
    congr 1
    apply List.filter_congr
    intro v hv
    have hv := List.mem_range.1 hv
    have h1 := (pri_valid h hv).1
    have e2 : pri g v = g.prio.getD v 0 := rfl
    rw [← e2, h1]
    congr 1
    exact propext ⟨fun e => by omega, fun e => by omega⟩
end

end Go.Proofs.Ytijkjhcigdfdgaa

namespace Go.Proofs.Ytijkjhcigdfdgaa
open Go.RowKit

/-- What is asked of a game that look gets. -/
structure LookH (g : Gm) : Prop where
  s : ∀ i, (g.succ.getD i []).length ≤ 1000
  n : g.prio.length ≤ 3000
  h : validB g = true → highG g ≤ 5000
noncomputable def workV (g : Gm) (p : Int) : Nat := match viewG g p with | some h => workN h.owner.length (moG h) | none => 0
noncomputable def validV (g : Gm) (p : Int) (m : List (List Int)) : Bool := match viewG g p with | some h => pmB h m | none => false
theorem mo_bd {h : Gm} (hv : validB h = true) (k : Nat) : (moG h).getD k 0 ≤ 3000 := by
  obtain ⟨la, lb, lc⟩ := valid_lens hv
  by_cases hk : k < (moG h).length
  · rw [mo_at hk]
    have : cntP h k ≤ h.prio.length := List.length_filter_le _ _
    omega
  · have : (moG h).getD k 0 = 0 := by simp [List.getD, List.getElem?_eq_none (Nat.le_of_not_lt hk)]
    omega

set_option maxRecDepth 100000 in
set_option maxHeartbeats 4000000 in
theorem Work_c (w : World) (vg : Value) (g : Gm) (p : Int) (hg : IsGame w vg g) (hL : LookH g) :
    Calls Try.prog 14 #[vg, .int .i64 p] w (Calm (.int .i64 (workV g p : Int)) w) := by
  have HC : Hid (∀ W, Below w.heap.size w W → Calls Try.prog 33 #[vg, .int .i64 p] W (LookOut g p W)) := fun W h => look_c W vg g p (hg.below h) hL.s hL.n hL.h
  have HWK : Hid (∀ W v h, viewG g p = some h → IsView W v h (moG h) → Calls Try.prog 34 #[v] W (Calm (.int .i64 (workN h.owner.length (moG h) : Int)) W)) := fun W v h e hv => work_c W v h _ hv (by have := valid_lens (view_valid e).1; omega) (mo_bd (view_valid e).1)
  obtain ⟨v0, v1, v2, rfl, -⟩ := hg
  clear hL
  have hB : Below w.heap.size w (w.alloc (.cells #[v0, v1, v2] 25)) := (by repeat (first | exact Below.refl _ _ | assumption | (refine belA ?_ _) | (refine belD ?_ _)))
  have hx : (w.alloc (.cells #[v0, v1, v2] 25)).heap[w.heap.size]? = some (.cells #[v0, v1, v2] 25 (0, 0)) := (by (repeat (rw [alloc_get]; first | rw [if_pos (by first | (simp; done) | (simp; omega))] | rw [if_neg (by first | (simp; done) | (simp; omega))])); (try rfl))
  go_enter Try.func14, Try.ntmps14
  go_upto_region 1 with (fail)
  generalize (w.alloc (.cells #[v0, v1, v2] 25)) = w1 at *
  have q0 := cell_of_row _ _ 0 _ _ _ hx
  have q1 := cell_of_row _ _ 1 _ _ _ hx
  have q2 := cell_of_row _ _ 2 _ _ _ hx
  have HB := Lib.hid hB
  clear hx hB
  go_wp2_with fail
  refine (HC.out _ HB.out).mono ?_
  intro e w2 ho
  clear q0 q1 q2
  cases hv : viewG g p with
  | none =>
    have HV : Hid (workV g p = 0) := by show _ = _; unfold workV; rw [hv]
    unfold LookOut at ho
    rw [hv] at ho
    obtain ⟨rfl, hb⟩ := ho
    have HB2 := Lib.hid (HB.out.trans (hb.mono HB.out.size))
    clear hb hv
    unfold nilView
    go_wp2
    go_ret
    exact ⟨by rw [HV.out]; rfl, HB2.out.alloc HB2.out.size _⟩
  | some h =>
    have HV : Hid (workV g p = workN h.owner.length (moG h)) := by show _ = _; unfold workV; rw [hv]
    have HH := Lib.hid hv
    unfold LookOut at ho
    rw [hv] at ho
    obtain ⟨v, rfl, hvv, hb⟩ := ho
    have HB2 := Lib.hid (HB.out.trans (hb.mono HB.out.size))
    have HVV := Lib.hid hvv
    obtain ⟨x0, x1, x2, x3, rfl, hgg, hgi⟩ := hvv
    obtain ⟨y0, z0, y1, z1, y2, z2, e3⟩ := hgg.shape
    obtain ⟨y3, z3, rfl⟩ := hgi.shape
    obtain ⟨rfl, rfl, rfl⟩ : x0 = _ ∧ x1 = _ ∧ x2 = _ := by simpa using e3
    clear hb hv hgg hgi e3
    have hB4 : Below w2.heap.size w2 (w2.alloc (.cells #[.slice y0 h.owner.length z0, .slice y1 h.prio.length z1, .slice y2 h.succ.length z2, .slice y3 (castM (moG h)).length z3] 49)) := bel_box _
    have HC2 := Lib.hid (HWK.out _ _ h HH.out (HVV.out.below hB4))
    have HB4 := Lib.hid (HB2.out.trans (hB4.mono HB2.out.size))
    clear hB4
    go_wp2_with fail
    refine HC2.out.mono ?_
    rintro e w3 ⟨rfl, hb⟩
    go_wp2
    go_ret
    exact ⟨by rw [HV.out]; rfl, HB4.out.trans (hb.mono HB4.out.size)⟩

set_option maxRecDepth 100000 in
set_option maxHeartbeats 4000000 in
theorem Valid_c (w : World) (vg vm : Value) (g : Gm) (p : Int) (m : List (List Int)) (hg : IsGame w vg g) (hm : IsRows w vm m) (hL : LookH g) :
    Calls Try.prog 16 #[vg, .int .i64 p, vm] w (Calm (.bool (validV g p m)) w) := by
  have HC : Hid (∀ W, Below w.heap.size w W → Calls Try.prog 33 #[vg, .int .i64 p] W (LookOut g p W)) := fun W h => look_c W vg g p (hg.below h) hL.s hL.n hL.h
  have HWK : Hid (∀ W v h, Below w.heap.size w W → viewG g p = some h → IsView W v h (moG h) → Calls Try.prog 42 #[v, vm] W (Calm (.bool (pmB h m)) W)) := fun W v h hW e hv => by
    have hv' := (view_valid e).1
    obtain ⟨la, lb, lc⟩ := valid_lens hv'
    exact prog_c W v vm h m h.owner.length hv (hm.below hW) (re_valid hv') (fun u hu => (pri_valid hv' hu).2.2) (fun u hu => ⟨(pri_valid hv' hu).1, (pri_valid hv' hu).2.1⟩) rfl lb lc
  obtain ⟨v0, v1, v2, rfl, -⟩ := hg
  clear hL hm
  have hB : Below w.heap.size w (w.alloc (.cells #[v0, v1, v2] 25)) := (by repeat (first | exact Below.refl _ _ | assumption | (refine belA ?_ _) | (refine belD ?_ _)))
  have hx : (w.alloc (.cells #[v0, v1, v2] 25)).heap[w.heap.size]? = some (.cells #[v0, v1, v2] 25 (0, 0)) := (by (repeat (rw [alloc_get]; first | rw [if_pos (by first | (simp; done) | (simp; omega))] | rw [if_neg (by first | (simp; done) | (simp; omega))])); (try rfl))
  go_enter Try.func16, Try.ntmps16
  go_upto_region 1 with (fail)
  generalize (w.alloc (.cells #[v0, v1, v2] 25)) = w1 at *
  have q0 := cell_of_row _ _ 0 _ _ _ hx
  have q1 := cell_of_row _ _ 1 _ _ _ hx
  have q2 := cell_of_row _ _ 2 _ _ _ hx
  have HB := Lib.hid hB
  clear hx hB
  go_wp2_with fail
  refine (HC.out _ HB.out).mono ?_
  intro e w2 ho
  clear q0 q1 q2
  cases hv : viewG g p with
  | none =>
    have HV : Hid (validV g p m = false) := by show _ = _; unfold validV; rw [hv]
    unfold LookOut at ho
    rw [hv] at ho
    obtain ⟨rfl, hb⟩ := ho
    have HB2 := Lib.hid (HB.out.trans (hb.mono HB.out.size))
    clear hb hv
    unfold nilView
    go_wp2
    go_ret
    exact ⟨ret_bool HV.out.symm, HB2.out.alloc HB2.out.size _⟩
  | some h =>
    have HV : Hid (validV g p m = pmB h m) := by show _ = _; unfold validV; rw [hv]
    have HH := Lib.hid hv
    unfold LookOut at ho
    rw [hv] at ho
    obtain ⟨v, rfl, hvv, hb⟩ := ho
    have HB2 := Lib.hid (HB.out.trans (hb.mono HB.out.size))
    have HVV := Lib.hid hvv
    obtain ⟨x0, x1, x2, x3, rfl, hgg, hgi⟩ := hvv
    obtain ⟨y0, z0, y1, z1, y2, z2, e3⟩ := hgg.shape
    obtain ⟨y3, z3, rfl⟩ := hgi.shape
    obtain ⟨rfl, rfl, rfl⟩ : x0 = _ ∧ x1 = _ ∧ x2 = _ := by simpa using e3
    clear hb hv hgg hgi e3
    have hB4 : Below w2.heap.size w2 (w2.alloc (.cells #[.slice y0 h.owner.length z0, .slice y1 h.prio.length z1, .slice y2 h.succ.length z2, .slice y3 (castM (moG h)).length z3] 49)) := bel_box _
    have HB4 := Lib.hid (HB2.out.trans (hB4.mono HB2.out.size))
    have HC2 := Lib.hid (HWK.out _ _ h HB4.out HH.out (HVV.out.below hB4))
    clear hB4
    go_wp2_with fail
    refine HC2.out.mono ?_
    rintro e w3 ⟨rfl, hb⟩
    go_wp2
    go_ret
    exact ⟨ret_bool HV.out.symm, HB4.out.trans (hb.mono HB4.out.size)⟩

end Go.Proofs.Ytijkjhcigdfdgaa
