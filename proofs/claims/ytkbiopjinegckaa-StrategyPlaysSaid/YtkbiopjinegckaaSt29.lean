/- Exchanged players, priorities higher by two: who wins a strategy, a play, in plain terms. -/
import Derived.Test.YtkbiopjinegckaaSt27
import Derived.Test.YtkbiopjinegckaaStCb
namespace Go.Proofs.Ytkbiopjinegckaa
open Go.RowKit

def highG (g : Gm) : Gm := ⟨g.owner, g.prio.map (· + 2), g.succ⟩
theorem high_valid {g : Gm} (hv : validB g = true) (hp : ∀ i, i < g.owner.length → g.prio.getD i 0 ≤ 29998) : validB (highG g) = true := by
  obtain ⟨a, b, c⟩ := valid_lens hv
  refine (validB_iff (highG g) a (by simp [highG, b]) (by simp [highG, c])).2 fun j hj => (okB_iff _ _).2 ?_
  have hj' : j < g.owner.length := hj
  have h := valid_at hv j hj'
  have h2 := hp j hj'
  unfold highG
  simp only
  rw [getD_map0 _ _ _ (by omega)]
  exact ⟨h.1, by omega, h.2.2⟩
theorem fold_add (f f' : Int → Int) (d : Int) (l : List Int) (h : ∀ v ∈ l, f' v = f v + d) : ∀ m, l.foldl (fun m v => min m (f' v)) (m + d) = l.foldl (fun m v => min m (f v)) m + d := by
  induction l with
  | nil => intro m; rfl
  | cons y l ih =>
    intro m
    simp only [List.foldl_cons]
    rw [h y List.mem_cons_self, show min (m + d) (f y + d) = min m (f y) + d from by omega]
    exact ih (fun v hv => h v (List.mem_cons_of_mem _ hv)) _
section
variable {g g' : Gm} {d : Int} (hl : g'.owner.length = g.owner.length) (hs : g'.succ = g.succ) (hp : ∀ i, i < g.owner.length → g'.prio.getD i 0 = g.prio.getD i 0 + d)
include hl hs hp
omit hl hs in
theorem least_add (P : Ph) (hne : P.loop ≠ []) (hok : okW g (wayL P) = true) : leastW g' P.loop = leastW g P.loop + d := by
  have hin : ∀ k, k < P.loop.length → 0 ≤ P.loop.getD k 0 ∧ P.loop.getD k 0 < g.owner.length := fun k hk => by
    have := okW_at hok (i := P.stem.length + k) (by rw [wayL_len P hne]; omega)
    rwa [wayL_loop P k hk] at this
  have hm : ∀ v ∈ P.loop, g'.prio.getD v.toNat 0 = g.prio.getD v.toNat 0 + d := fun v hv => by
    obtain ⟨k, hk, rfl⟩ := List.getElem_of_mem hv
    have := hin k hk
    rw [getD_lt _ _ _ hk] at this
    exact hp _ (by omega)
  have h0 : 0 < P.loop.length := List.length_pos_iff.2 hne
  unfold leastW
  rw [hm (P.loop.getD 0 0) (by rw [getD_lt _ _ _ h0]; exact List.getElem_mem h0)]
  exact fold_add (fun v => g.prio.getD v.toNat 0) (fun v => g'.prio.getD v.toNat 0) d P.loop hm _
theorem winr_add (P : Ph) (hv : validB g = true) (hv' : validB g' = true) : (winrB g P = -1 ∧ winrB g' P = -1) ∨ (0 ≤ winrB g P ∧ ∃ m, winrB g P = m % 2 ∧ winrB g' P = (m + d) % 2) := by
  have ho : okW g' (wayL P) = okW g (wayL P) := by
    unfold okW
    refine congrArg _ (funext fun i => ?_)
    unfold okAt
    rw [hl, hs]
  unfold winrB
  rw [hv, hv', ho]
  cases he : P.loop.isEmpty
  · cases hk : okW g (wayL P)
    · left; simp
    · right
      have hne : P.loop ≠ [] := fun e => by rw [e] at he; cases he
      simp only [Bool.not_false, Bool.and_true, if_true]
      rw [least_add hp P hne hk]
      exact ⟨by omega, _, rfl, rfl⟩
  · left; simp
end
theorem winr_swap {g : Gm} (P : Ph) (hv : validB g = true) (hp : ∀ i, i < g.owner.length → g.prio.getD i 0 ≤ 29998) : (winrB g P = -1 ∧ winrB (swapG g) P = -1) ∨ (0 ≤ winrB g P ∧ winrB (swapG g) P = 1 - winrB g P) := by
  have hlen := (valid_lens hv).2.1
  rcases winr_add (g := g) (g' := swapG g) (d := 1) (by simp [swapG]) rfl (fun i hi => getD_map0 g.prio (· + 1) i (by omega)) P hv (swap_valid hv fun i hi => by have := hp i hi; omega) with h | ⟨h0, m, h1, h2⟩
  · exact .inl h
  · exact .inr ⟨h0, by rw [h1, h2]; omega⟩
theorem winr_high {g : Gm} (P : Ph) (hv : validB g = true) (hp : ∀ i, i < g.owner.length → g.prio.getD i 0 ≤ 29998) : winrB (highG g) P = winrB g P := by
  have hlen := (valid_lens hv).2.1
  rcases winr_add (g := g) (g' := highG g) (d := 2) rfl rfl (fun i hi => getD_map0 g.prio (· + 2) i (by omega)) P hv (high_valid hv hp) with h | ⟨h0, m, h1, h2⟩
  · rw [h.1, h.2]
  · rw [h1, h2]; omega
theorem bool_eq {a b : Bool} (h : a = true ↔ b = true) : a = b := Bool.eq_iff_iff.2 h
theorem st_same {g g' : Gm} {p p' : Int} {set : List Bool} {s : List Int} (hl : g'.owner.length = g.owner.length) (hs : g'.succ = g.succ) (hv : validB g' = validB g) (hp : (p' = 0 ∨ p' = 1) ↔ (p = 0 ∨ p = 1))
    (ho : ∀ v, v < g.owner.length → (g'.owner.getD v 0 = p' ↔ g.owner.getD v 0 = p)) : stB g' p' set s = stB g p set s := by
  apply bool_eq
  simp only [stB, Bool.and_eq_true, Bool.or_eq_true, decide_eq_true_eq, List.all_eq_true, List.mem_range, hl, hv]
  have hk : set.length = g.owner.length → ((∀ x, x < set.length → keepsB g' p' set s x = true) ↔ (∀ x, x < set.length → keepsB g p set s x = true)) := fun e => by
    refine forall_congr' fun x => forall_congr' fun hx => ?_
    have := ho x (by omega)
    unfold keepsB
    rw [hs]
    by_cases h : g.owner.getD x 0 = p
    · rw [if_pos h, if_pos (this.2 h)]
    · rw [if_neg h, if_neg fun k => h (this.1 k)]
  constructor
  · rintro ⟨⟨⟨⟨h1, h2⟩, h3⟩, h4⟩, h5⟩
    exact ⟨⟨⟨⟨hp.1 h1, h2⟩, h3⟩, h4⟩, (hk h3).1 h5⟩
  · rintro ⟨⟨⟨⟨h1, h2⟩, h3⟩, h4⟩, h5⟩
    exact ⟨⟨⟨⟨hp.2 h1, h2⟩, h3⟩, h4⟩, (hk h3).2 h5⟩
theorem win_same {g g' : Gm} {p p' d : Int} {set : List Bool} {s : List Int} (hl : g'.owner.length = g.owner.length) (hs : g'.succ = g.succ) (hv : validB g' = validB g) (hp : (p' = 0 ∨ p' = 1) ↔ (p = 0 ∨ p = 1))
    (ho : ∀ v, v < g.owner.length → (g'.owner.getD v 0 = p' ↔ g.owner.getD v 0 = p)) (hd : ∀ i, i < g.owner.length → g'.prio.getD i 0 = g.prio.getD i 0 + d) (hb : ∀ m : Int, (m + d) % 2 = p' ↔ m % 2 = p) : winB g' p' set s = winB g p set s := by
  apply bool_eq
  rw [winB_iff, winB_iff, st_same hl hs hv hp ho]
  refine and_congr_right fun h => ?_
  have h' : stB g' p' set s = true := by rw [st_same hl hs hv hp ho]; exact h
  have hset := (keeps_at h).2.2.1
  have hin : ∀ i, set.getD i false = true → i < g.owner.length := fun i hi => by
    rcases Nat.lt_or_ge i set.length with k | k
    · omega
    · rw [List.getD_eq_getElem?_getD, List.getElem?_eq_none k] at hi; cases hi
  have hE : EG (nxS g' p' set s) = EG (nxS g p set s) := funext fun i => funext fun j => propext (by
    rw [EG_iff h', EG_iff h, hs]
    refine and_congr_right fun hi => ?_
    have := ho i (hin i hi)
    constructor
    · rintro ⟨k1, k2⟩
      exact ⟨k1.imp (fun n e => n (this.2 e)) id, k2⟩
    · rintro ⟨k1, k2⟩
      exact ⟨k1.imp (fun n e => n (this.1 e)) id, k2⟩)
  have hpos : ∀ i, i ∈ posL set g.owner.length → i < g.owner.length := fun i hi => by
    simp only [posL, List.mem_filter, List.mem_range] at hi
    exact hi.1
  unfold GoodL Good
  rw [hE, hl]
  refine forall_congr' fun i => forall_congr' fun hi => ?_
  have hbad : badF g'.prio p' i ↔ badF g.prio p i := by
    unfold badF prF
    rw [hd i (hpos i hi)]
    exact not_congr (hb _)
  rw [hbad]
  refine forall_congr' fun _ => not_congr ⟨fun k => k.mono fun x hx => ⟨hx.1, ?_⟩, fun k => k.mono fun x hx => ⟨hx.1, ?_⟩⟩
  · have := hx.2
    unfold prF at this ⊢
    rw [hd i (hpos i hi), hd x (hpos x hx.1)] at this
    omega
  · have := hx.2
    unfold prF at this ⊢
    rw [hd i (hpos i hi), hd x (hpos x hx.1)]
    omega
theorem swap_same {g : Gm} {p : Int} (set : List Bool) (s : List Int) (hv : validB g = true) (hp : ∀ i, i < g.owner.length → g.prio.getD i 0 ≤ 29998) : stB (swapG g) (1 - p) set s = stB g p set s ∧ winB (swapG g) (1 - p) set s = winB g p set s := by
  have hlen := (valid_lens hv).2.1
  have hv' : validB (swapG g) = validB g := by rw [hv]; exact swap_valid hv fun i hi => by have := hp i hi; omega
  have ho : ∀ v, v < g.owner.length → ((swapG g).owner.getD v 0 = 1 - p ↔ g.owner.getD v 0 = p) := fun v hv => by
    rw [show (swapG g).owner.getD v 0 = 1 - g.owner.getD v 0 from getD_map0 _ _ _ hv]; omega
  exact ⟨st_same (by simp [swapG]) rfl hv' (by omega) ho, win_same (d := 1) (by simp [swapG]) rfl hv' (by omega) ho (fun i hi => getD_map0 g.prio (· + 1) i (by omega)) (fun m => by omega)⟩
theorem high_same {g : Gm} {p : Int} (set : List Bool) (s : List Int) (hv : validB g = true) (hp : ∀ i, i < g.owner.length → g.prio.getD i 0 ≤ 29998) : winB (highG g) p set s = winB g p set s := by
  have hlen := (valid_lens hv).2.1
  exact win_same (d := 2) rfl rfl (by rw [hv]; exact high_valid hv hp) Iff.rfl (fun v _ => Iff.rfl) (fun i hi => getD_map0 g.prio (· + 2) i (by omega)) (fun m => by omega)
end Go.Proofs.Ytkbiopjinegckaa
