/- Games that are well-formed and light: what the laws ask of them. -/
import Derived.Test.YtijkjhcigdfdgaaQRkH1
namespace Go.Proofs.Ytijkjhcigdfdgaa
open Go.RowKit

noncomputable def fineB (g : Gm) : Bool := lightB g && validB g
/-- The game as a player sees it. -/
def vwG (g : Gm) (p : Int) : Gm := if p = 1 then swapG g else g
structure FineH (g : Gm) : Prop where
  v : validB g = true
  n : g.owner.length ≤ 12
  m : g.prio.length ≤ 12
  s : ∀ i, (g.succ.getD i []).length ≤ 20
  h : highG g ≤ 12
  w0 : workV g 0 ≤ 20000
  w1 : workV g 1 ≤ 20000
theorem fine_h {g : Gm} (h : fineB g = true) : FineH g := by
  unfold fineB lightB at h
  simp only [Bool.and_eq_true, Bool.or_eq_true, Bool.not_eq_true', decide_eq_true_eq] at h
  obtain ⟨⟨hs, ho⟩, hv⟩ := h
  obtain ⟨s1, s2, s3⟩ := small_prio hs
  rcases ho with ho | ⟨⟨h1, h2⟩, h3⟩
  · rw [hv] at ho; cases ho
  · exact ⟨hv, by omega, by omega, s3, h1, h2, h3⟩
theorem FineH.look {g : Gm} (h : FineH g) : LookH g := ⟨fun i => by have := h.s i; omega, by have := h.m; omega, fun _ => by have := h.h; omega⟩
theorem FineH.view {g : Gm} (h : FineH g) {p : Int} (hp : p = 0 ∨ p = 1) : viewG g p = some (vwG g p) := by
  unfold viewG vwG
  rw [if_pos ⟨hp, h.v, by have := h.h; omega⟩]
theorem FineH.vv {g : Gm} (h : FineH g) {p : Int} (hp : p = 0 ∨ p = 1) : validB (vwG g p) = true := (view_valid (h.view hp)).1
theorem FineH.vn {g : Gm} (h : FineH g) {p : Int} (hp : p = 0 ∨ p = 1) : (vwG g p).owner.length = g.owner.length := (view_valid (h.view hp)).2.1
theorem FineH.work {g : Gm} (h : FineH g) {p : Int} (hp : p = 0 ∨ p = 1) : ¬ 2000000 < workN (vwG g p).owner.length (moG (vwG g p)) := by
  have e : workV g p = workN (vwG g p).owner.length (moG (vwG g p)) := by unfold workV; rw [h.view hp]
  rw [← e]
  rcases hp with rfl | rfl
  · have := h.w0; omega
  · have := h.w1; omega
/-- The least measures of a player. -/
noncomputable def lstG (g : Gm) (p : Int) : List (List Int) := rowsF (moG (vwG g p)) (lfpF (vwG g p) (moG (vwG g p))) g.owner.length
theorem FineH.meas {g : Gm} (h : FineH g) {p : Int} (hp : p = 0 ∨ p = 1) : measG g p = (lstG g p, 0) := by
  unfold measG
  rw [h.view hp]
  show measV (vwG g p) = _
  rw [measV_ok (h.work hp)]
  unfold lstG
  rw [h.vn hp]
theorem lst_len (g : Gm) (p : Int) : (lstG g p).length = g.owner.length := rowsF_len
theorem lst_at {g : Gm} {p : Int} {i : Nat} (hi : i < g.owner.length) : (lstG g p).getD i [] = digL (moG (vwG g p)) (lfpF (vwG g p) (moG (vwG g p)) i) := rowsF_at hi
theorem FineH.least {g : Gm} (h : FineH g) {p : Int} (hp : p = 0 ∨ p = 1) : LeastP (vwG g p) g.owner.length (moG (vwG g p)) (lfpF (vwG g p) (moG (vwG g p))) := by
  rw [← h.vn hp]
  exact lfp_is (re_valid (h.vv hp))
theorem FineH.rg {g : Gm} (h : FineH g) {p : Int} (hp : p = 0 ∨ p = 1) : RG (vwG g p) g.owner.length (moG (vwG g p)) := by
  rw [← h.vn hp]
  exact rg_valid (h.vv hp)
theorem dig_nil {mo : List Nat} {c : Nat} : digL mo c = [] ↔ c = topN mo := by
  unfold digL
  by_cases h1 : c = topN mo
  · simp [h1]
  · rw [if_neg h1]
    by_cases h2 : mo = []
    · simp [h2]
      simpa [h2] using h1
    · simp [h2, h1]
/-- Who is top loses. -/
theorem FineH.won {g : Gm} (h : FineH g) {l : List Int} (hS : IsSol g l) {p : Int} (hp : p = 0 ∨ p = 1) {i : Nat} (hi : i < g.owner.length) : ((lstG g p).getD i [] = [] ↔ l.getD i 0 ≠ p) ∧ (l.getD i 0 = 0 ∨ l.getD i 0 = 1) := by
  have hSg := (hS.2 h.v).2
  have hll := (hS.2 h.v).1
  have h2 := hSg.two i hi
  refine ⟨?_, h2⟩
  have hle := (h.least hp).pm.le i hi
  rw [lst_at hi, dig_nil]
  have hW : ∃ l' : List Int, Sol (vwG g p) (fun i => i < g.owner.length) (fun i => l'.getD i 0) ∧ (l'.getD i 0 = 0 ↔ l.getD i 0 = p) := by
    rcases hp with rfl | rfl
    · exact ⟨l, hSg, Iff.rfl⟩
    · refine ⟨solR (swapG g), ?_, ?_⟩
      · have := ((solR_is (swapG g)).2 (h.vv (p := 1) (.inr rfl))).2
        have e := h.vn (p := 1) (.inr rfl)
        have e2 : vwG g 1 = swapG g := if_pos rfl
        rw [e2] at e ⊢
        rw [e] at this
        exact this
      · rw [swap_sol h.v fun j hj => by
          have h1 := (valid_lens h.v).2.1
          have := high_ge (g := g) (x := g.prio.getD j 0) (by rw [getD_lt _ _ _ (by omega)]; exact List.getElem_mem _)
          have := h.h
          omega, ← hS.eq, getD_map0 _ _ _ (by omega)]
        omega
  obtain ⟨l', hS', he⟩ := hW
  have := LeastP.won (h.rg hp) (h.least hp) hS' hi
  rw [he] at this
  constructor
  · intro e hc
    have := this.2 hc
    omega
  · intro hne
    by_cases hlt : lfpF (vwG g p) (moG (vwG g p)) i < topN (moG (vwG g p))
    · exact absurd (this.1 hlt) hne
    · omega

set_option maxRecDepth 100000 in
set_option maxHeartbeats 4000000 in
theorem fine_c (w : World) (vg : Value) (g : Gm) (hg : IsGame w vg g) :
    Calls Try.prog 21 #[vg] w (Calm (.bool (fineB g)) w) := by
  have HLC : Hid (∀ W, Below w.heap.size w W → Calls Try.prog 10 #[vg] W (Calm (.bool (lightB g)) W)) := fun W h => Light_c W vg g (hg.below h)
  have HVC : Hid (∀ W, Below w.heap.size w W → Calls Try.prog 29 #[vg] W (Calm (.bool (validB g)) W)) := fun W h => RValid_c W vg g (hg.below h)
  obtain ⟨v0, v1, v2, rfl, -⟩ := hg
  have hB : Below w.heap.size w (w.alloc (.cells #[v0, v1, v2] 25)) := (by repeat (first | exact Below.refl _ _ | assumption | (refine belA ?_ _) | (refine belD ?_ _)))
  have hx : (w.alloc (.cells #[v0, v1, v2] 25)).heap[w.heap.size]? = some (.cells #[v0, v1, v2] 25 (0, 0)) := (by (repeat (rw [alloc_get]; first | rw [if_pos (by first | (simp; done) | (simp; omega))] | rw [if_neg (by first | (simp; done) | (simp; omega))])); (try rfl))
  go_enter Try.func21, Try.ntmps21
  go_upto_region 1 with (fail)
  generalize (w.alloc (.cells #[v0, v1, v2] 25)) = w1 at *
  have q0 := cell_of_row _ _ 0 _ _ _ hx
  have q1 := cell_of_row _ _ 1 _ _ _ hx
  have q2 := cell_of_row _ _ 2 _ _ _ hx
  have HB := Lib.hid hB
  clear hx hB
  go_wp2_with fail
  refine (HLC.out _ HB.out).mono ?_
  rintro e w2 ⟨rfl, hb⟩
  have HB2 := Lib.hid (HB.out.trans (hb.mono HB.out.size))
  replace q0 := cellB hb q0
  replace q1 := cellB hb q1
  replace q2 := cellB hb q2
  clear hb
  cases hs : lightB g with
  | false =>
    have HE : Hid (fineB g = false) := by show _ = _; unfold fineB; rw [hs]; rfl
    clear hs
    go_wp2
    go_ret
    rw [HE.out]
    exact ⟨rfl, HB2.out⟩
  | true =>
    have HE : Hid (fineB g = validB g) := by show _ = _; unfold fineB; rw [hs]; rfl
    clear hs
    go_wp2_with fail
    refine (HVC.out _ HB2.out).mono ?_
    rintro e w3 ⟨rfl, hb⟩
    have HB3 := Lib.hid (HB2.out.trans (hb.mono HB2.out.size))
    clear hb
    go_wp2_with fail
    go_ret
    rw [HE.out]
    exact ⟨rfl, HB3.out⟩

end Go.Proofs.Ytijkjhcigdfdgaa
