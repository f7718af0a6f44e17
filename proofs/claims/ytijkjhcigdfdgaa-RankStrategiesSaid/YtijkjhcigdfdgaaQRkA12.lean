/- The law RankStrategies: its plain part. -/
import Derived.Test.YtijkjhcigdfdgaaQRkA2
import Derived.Test.YtijkjhcigdfdgaaQRkA11
import Derived.Test.YtijkjhcigdfdgaaQRkA4
namespace Go.Proofs.Ytijkjhcigdfdgaa

theorem vw_own {g : Gm} {p : Int} (hp : p = 0 ∨ p = 1) {v : Nat} (hv : v < g.owner.length) : own (vwG g p) v = 0 ↔ g.owner.getD v 0 = p := by
  unfold own
  rcases hp with rfl | rfl
  · simp [vwG]
  · simp only [vwG, if_pos, swapG]
    rw [getD_map0 _ _ _ hv]
    omega
theorem vw_succ (g : Gm) (p : Int) : (vwG g p).succ = g.succ := by
  unfold vwG swapG
  split <;> rfl
/-- The strategy that Choose gives. -/
theorem FineH.cho {g : Gm} (h : FineH g) {p : Int} (hp : p = 0 ∨ p = 1) {m : List (List Int)} (hm : validV g p m = true) :
    m.length = g.owner.length ∧ (choG g p m).length = g.owner.length ∧ ∀ v, v < g.owner.length →
      (¬ (g.owner.getD v 0 = p ∧ m.getD v [] ≠ []) → (choG g p m).getD v 0 = -1) ∧
      (g.owner.getD v 0 = p → m.getD v [] ≠ [] → ∃ j : Nat, (choG g p m).getD v 0 = (j : Int) ∧ j < g.owner.length ∧ (j : Int) ∈ g.succ.getD v [] ∧
        alongN (moG (vwG g p)) (cdN (moG (vwG g p)) (m.getD j [])) (prN (vwG g p) v) ≤ cdN (moG (vwG g p)) (m.getD v [])) := by
  have hv := h.vv hp
  have hn := h.vn hp
  unfold validV at hm
  rw [h.view hp] at hm
  have hm' : pmB (vwG g p) m = true := hm
  have h1 := pmB_of hm'
  have hc : choG g p m = choV (vwG g p) m := by
    unfold choG
    rw [h.view hp]
    simp only [hm', if_true]
  have h2 := (pm_iff (re_valid hv)).1 (pm_lists hv hm')
  rw [hc]
  refine ⟨by rw [h1.1, hn], by unfold choV; rw [List.length_map, List.length_range, hn], fun v hvn => ?_⟩
  have hvn' : v < (vwG g p).owner.length := by rw [hn]; exact hvn
  have e : (choV (vwG g p) m).getD v 0 = if own (vwG g p) v = 0 ∧ m.getD v [] ≠ [] then bestI (fun u => cdN (moG (vwG g p)) (m.getD u [])) ((vwG g p).succ.getD v []) else -1 := by
    unfold choV
    rw [getD_lt _ _ _ (by rw [List.length_map, List.length_range]; exact hvn'), List.getElem_map, List.getElem_range]
  rw [e]
  refine ⟨fun hno => if_neg fun hx => hno ⟨(vw_own hp hvn).1 hx.1, hx.2⟩, fun ho hne => ?_⟩
  rw [if_pos ⟨(vw_own hp hvn).2 ho, hne⟩, vw_succ]
  obtain ⟨-, -, hne2, hed⟩ := valid_at h.v v hvn
  have hin : bestI (fun u => cdN (moG (vwG g p)) (m.getD u [])) (g.succ.getD v []) ∈ g.succ.getD v [] := by
    rcases best_in (fun u => cdN (moG (vwG g p)) (m.getD u [])) (g.succ.getD v []) with q | q
    · exact q
    · rw [q]
      have hl : 0 < (g.succ.getD v []).length := List.length_pos_iff.2 hne2
      rw [getD_lt _ _ _ hl]
      exact List.getElem_mem _
  have hb := hed _ hin
  obtain ⟨j, hj⟩ : ∃ j : Nat, bestI (fun u => cdN (moG (vwG g p)) (m.getD u [])) (g.succ.getD v []) = (j : Int) := ⟨_, (Int.toNat_of_nonneg hb.1).symm⟩
  have hnd := h2.2 v hvn'
  have hmin := best_min (fun u => cdN (moG (vwG g p)) (m.getD u [])) (g.succ.getD v [])
  rw [hj] at hin hb hmin
  refine ⟨j, hj, by omega, hin, ?_⟩
  unfold needN at hnd
  rw [if_neg (by rw [(vw_own hp hvn).2 ho]; decide), vw_succ, ← hmin] at hnd
  simpa using hnd
section
variable {g : Gm} {p : Int} {m : List (List Int)}
/-- A move from a position that is not top. -/
theorem FineH.move (h : FineH g) (hp : p = 0 ∨ p = 1) (hm : validV g p m = true) {v : Nat} (hvn : v < g.owner.length) (ht : m.getD v [] ≠ []) {x : Int} (hx : x ∈ mvL g p (choG g p m) v) :
    ∃ y : Nat, x = (y : Int) ∧ y < g.owner.length ∧ m.getD y [] ≠ [] ∧ (y : Int) ∈ g.succ.getD v [] ∧ (g.owner.getD v 0 = p → (choG g p m).getD v 0 = (y : Int)) := by
  have hv := h.vv hp
  have hn := h.vn hp
  obtain ⟨-, -, hc⟩ := h.cho hp hm
  unfold validV at hm
  rw [h.view hp] at hm
  have hm' : pmB (vwG g p) m = true := hm
  have h1 := pmB_of hm'
  have hpm := pm_lists hv hm'
  have hft : ∀ u, u < g.owner.length → m.getD u [] ≠ [] → cdN (moG (vwG g p)) (m.getD u []) < topN (moG (vwG g p)) := fun u hu hne => by
    have a := h1.2 u (by rw [hn]; exact hu)
    exact Nat.lt_of_le_of_ne (cd_le a) fun e => hne ((cd_top a).1 e)
  have hno : ∀ y : Nat, y < g.owner.length → alongN (moG (vwG g p)) (cdN (moG (vwG g p)) (m.getD y [])) (prN (vwG g p) v) ≤ cdN (moG (vwG g p)) (m.getD v []) → m.getD y [] ≠ [] := fun y hy ha e => by
    have b := (cd_top (h1.2 y (by rw [hn]; exact hy))).2 e
    rw [b] at ha
    unfold alongN at ha
    rw [if_pos rfl] at ha
    have := hft v hvn ht
    omega
  unfold mvL at hx
  by_cases ho : g.owner.getD v 0 = p
  · rw [if_pos ho] at hx
    obtain ⟨j, e, hj, hjs, ha⟩ := (hc v hvn).2 ho ht
    obtain rfl : x = (j : Int) := by rw [← e]; simpa using hx
    exact ⟨j, rfl, hj, hno j hj ha, hjs, fun _ => e⟩
  · rw [if_neg ho] at hx
    have hb := (valid_at h.v v hvn).2.2.2 x hx
    obtain ⟨j, rfl⟩ : ∃ j : Nat, x = (j : Int) := ⟨_, (Int.toNat_of_nonneg hb.1).symm⟩
    have ha := hpm.other v (by rw [hn]; exact hvn) (hft v hvn ht) (fun e => ho ((vw_own hp hvn).1 e)) j (by show (j : Int) ∈ _; rw [vw_succ]; exact hx)
    exact ⟨j, rfl, by omega, hno j (by omega) ha, hx, fun e => absurd e ho⟩
/-- No cycle of moves has a least priority of the other parity: what bad_c asks. -/
theorem FineH.nobad (h : FineH g) (hp : p = 0 ∨ p = 1) (hm : validV g p m = true) {v : Nat} (hvn : v < g.owner.length) (ht : m.getD v [] ≠ []) (hpr : g.prio.getD v 0 % 2 ≠ p) :
    ∃ Q : Nat → Prop, Q v ∧ (∀ u, Q u → m.getD u [] ≠ []) ∧ ∀ u, u < g.owner.length → Q u → ∀ x ∈ mvL g p (choG g p m) u, ∃ y : Nat, x = (y : Int) ∧ y < g.owner.length ∧ y ≠ v ∧ (m.getD y [] ≠ [] → g.prio.getD v 0 ≤ g.prio.getD y 0 → Q y) := by
  have hv := h.vv hp
  have hn := h.vn hp
  obtain ⟨-, -, hc⟩ := h.cho hp hm
  have hmv := fun {u : Nat} (hu : u < g.owner.length) (hne : m.getD u [] ≠ []) {x : Int} (hx : x ∈ mvL g p (choG g p m) u) => h.move hp hm hu hne hx
  have hm2 := hm
  unfold validV at hm2
  rw [h.view hp] at hm2
  have hm' : pmB (vwG g p) m = true := hm2
  have h1 := pmB_of hm'
  have hpm := pm_lists hv hm'
  rw [hn] at hpm
  have hft : ∀ u, u < g.owner.length → (cdN (moG (vwG g p)) (m.getD u []) < topN (moG (vwG g p)) ↔ m.getD u [] ≠ []) := fun u hu => by
    have a := h1.2 u (by rw [hn]; exact hu)
    constructor
    · intro hlt e
      have := (cd_top a).2 e
      omega
    · intro hne
      exact Nat.lt_of_le_of_ne (cd_le a) fun e => hne ((cd_top a).1 e)
  have hW := hpm.winsBy (h.rg hp) (fun u => ((choG g p m).getD u 0).toNat) fun u hu hlt ho => by
    obtain ⟨j, e, hj, hjs, ha⟩ := (hc u hu).2 ((vw_own hp hu).1 ho) ((hft u hu).1 hlt)
    have e2 : ((choG g p m).getD u 0).toNat = j := by rw [e, Int.toNat_natCast]
    simp only [e2]
    exact ⟨by show (j : Int) ∈ _; rw [vw_succ]; exact hjs, ha⟩
  have hpri : ∀ u, u < g.owner.length → pri (vwG g p) u = g.prio.getD u 0 + p := fun u hu => vw_prio h.v hp hu
  refine ⟨fun u => (u < g.owner.length ∧ cdN (moG (vwG g p)) (m.getD u []) < topN (moG (vwG g p))) ∧ pri (vwG g p) v ≤ pri (vwG g p) u ∧ (u = v ∨ Plus (Step (vwG g p) 0 (fun u => u < g.owner.length ∧ cdN (moG (vwG g p)) (m.getD u []) < topN (moG (vwG g p))) (fun u => ((choG g p m).getD u 0).toNat) (pri (vwG g p) v)) v u), ⟨⟨hvn, (hft v hvn).2 ht⟩, Int.le_refl _, .inl rfl⟩, fun u hq => (hft u hq.1.1).1 hq.1.2, fun u hu hq x hx => ?_⟩
  obtain ⟨y, rfl, hy, hyt, hys, hyo⟩ := hmv hu ((hft u hu).1 hq.1.2) hx
  have hstep : pri (vwG g p) v ≤ pri (vwG g p) y → Plus (Step (vwG g p) 0 (fun u => u < g.owner.length ∧ cdN (moG (vwG g p)) (m.getD u []) < topN (moG (vwG g p))) (fun u => ((choG g p m).getD u 0).toNat) (pri (vwG g p) v)) v y := fun hle => by
    have hs : Step (vwG g p) 0 (fun u => u < g.owner.length ∧ cdN (moG (vwG g p)) (m.getD u []) < topN (moG (vwG g p))) (fun u => ((choG g p m).getD u 0).toNat) (pri (vwG g p) v) u y :=
      ⟨hq.1, ⟨hy, (hft y hy).2 hyt⟩, by show (y : Int) ∈ _; rw [vw_succ]; exact hys, hq.2.1, hle, fun ho => by
        show y = ((choG g p m).getD u 0).toNat
        rw [hyo ((vw_own hp hu).1 ho), Int.toNat_natCast]⟩
    rcases hq.2.2 with e | e
    · rw [e] at hs; exact .one hs
    · exact e.trans (.one hs)
  refine ⟨y, rfl, hy, fun e => ?_, fun _ hle => ⟨⟨hy, (hft y hy).2 hyt⟩, by rw [hpri v hvn, hpri y hy]; omega, .inr (hstep (by rw [hpri v hvn, hpri y hy]; omega))⟩⟩
  subst e
  refine hW.free y ⟨hy, (hft y hy).2 hyt⟩ ?_ (hstep (Int.le_refl _))
  unfold Lost
  rw [hpri y hy]
  omega
end

end Go.Proofs.Ytijkjhcigdfdgaa
