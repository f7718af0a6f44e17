/- The law RankWork: its plain part. -/
import Derived.Test.YtijkjhcigdfdgaaQRkA1
namespace Go.Proofs.Ytijkjhcigdfdgaa

def easyB (g : Gm) (p : Int) (k : Nat) : Bool := (List.range k).all fun i => decide (g.prio.getD i 0 % 2 = p)
theorem easyB_succ (g : Gm) (p : Int) (k : Nat) : easyB g p (k + 1) = (easyB g p k && decide (g.prio.getD k 0 % 2 = p)) := by
  unfold easyB
  rw [List.range_succ, List.all_append]
  simp
theorem unitL_one : ∀ (l : List Nat), unitL l = 1 ↔ ∀ x ∈ l, x = 0
  | [] => by simp [unitL]
  | x :: l => by
    have ih := unitL_one l
    have hp := unitL_pos l
    simp only [unitL, List.mem_cons, forall_eq_or_imp]
    rw [← ih]
    constructor
    · intro h
      have h1 : x + 1 = 1 := Nat.eq_one_of_dvd_one ⟨_, h.symm⟩
      obtain rfl : x = 0 := by omega
      exact ⟨rfl, by simpa using h⟩
    · rintro ⟨rfl, h⟩
      simpa using h
structure WorkH (g : Gm) : Prop where
  v : validB g = true
  n : g.owner.length ≤ 60
  m : g.prio.length ≤ 60
  s : ∀ i, (g.succ.getD i []).length ≤ 20
  h : highG g ≤ 40
theorem WorkH.look {g : Gm} (h : WorkH g) : LookH g := ⟨fun i => by have := h.s i; omega, by have := h.m; omega, fun _ => by have := h.h; omega⟩
theorem WorkH.view {g : Gm} (h : WorkH g) {p : Int} (hp : p = 0 ∨ p = 1) : viewG g p = some (vwG g p) := by
  unfold viewG vwG
  rw [if_pos ⟨hp, h.v, by have := h.h; omega⟩]
theorem WorkH.vv {g : Gm} (h : WorkH g) {p : Int} (hp : p = 0 ∨ p = 1) : validB (vwG g p) = true := (view_valid (h.view hp)).1
theorem WorkH.vn {g : Gm} (h : WorkH g) {p : Int} (hp : p = 0 ∨ p = 1) : (vwG g p).owner.length = g.owner.length := (view_valid (h.view hp)).2.1
theorem WorkH.work {g : Gm} (h : WorkH g) {p : Int} (hp : p = 0 ∨ p = 1) : workV g p = workN g.owner.length (moG (vwG g p)) := by
  unfold workV; rw [h.view hp, ← h.vn hp]
theorem vw_prio {g : Gm} (hv : validB g = true) {p : Int} (hp : p = 0 ∨ p = 1) {i : Nat} (hi : i < g.owner.length) : (vwG g p).prio.getD i 0 = g.prio.getD i 0 + p := by
  have hl := (valid_lens hv).2.1
  rcases hp with rfl | rfl
  · simp [vwG]
  · simp only [vwG, if_pos, swapG]
    rw [getD_map0 _ _ _ (by omega)]
theorem WorkH.top {g : Gm} (h : WorkH g) {p : Int} (hp : p = 0 ∨ p = 1) : easyB g p g.owner.length = true ↔ unitL (moG (vwG g p)) = 1 := by
  have hv := h.vv hp
  have hn := h.vn hp
  have hl := (valid_lens hv).2.1
  rw [unitL_one]
  constructor
  · intro he x hx
    simp only [easyB, List.all_eq_true, List.mem_range, decide_eq_true_eq] at he
    simp only [moG, List.mem_map, List.mem_range] at hx
    obtain ⟨k, -, rfl⟩ := hx
    unfold cntP
    rw [List.length_eq_zero_iff, List.filter_eq_nil_iff]
    intro y hy
    obtain ⟨i, hi, rfl⟩ := List.getElem_of_mem hy
    have hi' : i < g.owner.length := by omega
    have h1 := he i hi'
    have h2 := vw_prio h.v hp hi'
    rw [getD_lt _ _ _ hi] at h2
    simp only [decide_eq_true_eq]
    rw [h2]
    omega
  · intro hz
    simp only [easyB, List.all_eq_true, List.mem_range, decide_eq_true_eq]
    intro i hi
    rcases Decidable.em (g.prio.getD i 0 % 2 = p) with hc | hc
    · exact hc
    exfalso
    have h2 := vw_prio h.v hp hi
    have h3 := (valid_at h.v i hi).2.1
    have hx : (vwG g p).prio.getD i 0 ∈ (vwG g p).prio := by rw [getD_lt _ _ _ (by omega)]; exact List.getElem_mem _
    have h4 := high_ge hx
    obtain ⟨k, hk⟩ : ∃ k : Nat, (vwG g p).prio.getD i 0 = ((2 * k + 1 : Nat) : Int) := ⟨((g.prio.getD i 0 + p) / 2).toNat, by rw [h2]; omega⟩
    have hkm : cntP (vwG g p) k ∈ moG (vwG g p) := by
      simp only [moG, List.mem_map, List.mem_range]
      exact ⟨k, by unfold partN; omega, rfl⟩
    have h5 := hz _ hkm
    unfold cntP at h5
    rw [List.length_eq_zero_iff, List.filter_eq_nil_iff] at h5
    exact h5 _ hx (by simpa using hk)
theorem WorkH.num {g : Gm} (h : WorkH g) {p : Int} (hp : p = 0 ∨ p = 1) : (0 < g.owner.length → easyB g p g.owner.length = decide (workV g p = g.owner.length)) ∧ workV g p ≤ 2000001 ∧ g.owner.length ≤ workV g p := by
  have hn := h.n
  rw [h.work hp]
  have hpos := unitL_pos (moG (vwG g p))
  have ht := h.top hp
  generalize moG (vwG g p) = mo at *
  generalize g.owner.length = n at *
  have hge : n ≤ n * unitL mo := Nat.le_mul_of_pos_right _ hpos
  unfold workN
  by_cases hb : 2000000 < n * unitL mo
  · rw [if_pos hb]
    refine ⟨fun _ => ?_, by omega, by omega⟩
    rw [decide_eq_false (by omega)]
    cases he : easyB g p n with
    | false => rfl
    | true =>
      exfalso
      rw [ht.1 he] at hb
      omega
  · rw [if_neg hb]
    refine ⟨fun h0 => ?_, by omega, hge⟩
    cases he : easyB g p n with
    | false =>
      symm
      rw [decide_eq_false_iff_not]
      intro hc
      have h1 : unitL mo ≠ 1 := fun e => by rw [ht.2 e] at he; cases he
      have h2 : 2 ≤ unitL mo := by omega
      have := Nat.mul_le_mul_left n h2
      omega
    | true =>
      rw [ht.1 he]
      simp
theorem WorkH.big {g : Gm} (h : WorkH g) {p : Int} (hp : p = 0 ∨ p = 1) (hw : 2000000 < workV g p) : measG g p = ([], 2) := by
  unfold measG
  rw [h.view hp]
  rw [h.work hp, ← h.vn hp] at hw
  exact measV_big hw
theorem WorkH.meas {g : Gm} (h : WorkH g) {p : Int} (hp : p = 0 ∨ p = 1) (hw : ¬ 2000000 < workV g p) : measG g p = (lstG g p, 0) := by
  unfold measG
  rw [h.view hp]
  rw [h.work hp, ← h.vn hp] at hw
  show measV (vwG g p) = _
  rw [measV_ok hw]
  unfold lstG
  rw [h.vn hp]
theorem digL_zeros {mo : List Nat} (h : 0 < topN mo) : digL mo 0 ≠ [] ∧ ∀ j, (digL mo 0).getD j 0 = 0 := by
  have h0 : ¬ (0 : Nat) = topN mo := by omega
  refine ⟨fun e => h0 (dig_nil.1 e), fun j => ?_⟩
  unfold digL
  rw [if_neg h0]
  by_cases h1 : mo = []
  · rw [if_pos h1]
    match j with
    | 0 => rfl
    | j + 1 => rfl
  · rw [if_neg h1]
    by_cases hj : j < mo.length
    · simp [List.getD, hj, digN]
    · simp [List.getD, hj]
theorem WorkH.rows {g : Gm} (h : WorkH g) {p : Int} (hp : p = 0 ∨ p = 1) (he : easyB g p g.owner.length = true) {i : Nat} (hi : i < g.owner.length) : (lstG g p).getD i [] ≠ [] ∧ ∀ j, ((lstG g p).getD i []).getD j 0 = 0 := by
  have hv := h.vv hp
  have hn := h.vn hp
  have ht : topN (moG (vwG g p)) = 1 := (h.top hp).1 he
  have hle : LeastP (vwG g p) g.owner.length (moG (vwG g p)) (lfpF (vwG g p) (moG (vwG g p))) := by rw [← hn]; exact lfp_is (re_valid hv)
  have hrg : RG (vwG g p) g.owner.length (moG (vwG g p)) := by rw [← hn]; exact rg_valid hv
  have hev : ∀ v, v < g.owner.length → prN (vwG g p) v % 2 = 0 := fun v hv' => by
    simp only [easyB, List.all_eq_true, List.mem_range, decide_eq_true_eq] at he
    have h1 := he v hv'
    have h2 := vw_prio h.v hp hv'
    have h3 := (valid_at h.v v hv').2.1
    show ((vwG g p).prio.getD v 0).toNat % 2 = 0
    rw [h2]
    omega
  have hal : ∀ v, v < g.owner.length → alongN (moG (vwG g p)) 0 (prN (vwG g p) v) ≤ 0 := fun v hv' => by
    unfold alongN
    rw [if_neg (by omega), hev v hv']
    simp
  have hz : PM (vwG g p) g.owner.length (moG (vwG g p)) (fun _ => 0) := ⟨fun v hv' => Nat.zero_le _, fun v hv' _ _ => by
    obtain ⟨j, hj⟩ := hrg.so v hv'
    exact ⟨j, hj, hal v hv'⟩, fun v hv' _ _ j _ => hal v hv'⟩
  have h0 : lfpF (vwG g p) (moG (vwG g p)) i = 0 := by have := hle.le _ hz i hi; omega
  rw [lst_at hi, h0]
  exact digL_zeros (by omega)

end Go.Proofs.Ytijkjhcigdfdgaa
