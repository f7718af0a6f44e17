/- Whether an automaton is small. Paths by a set of moves: the table of Floyd and Warshall (plain). -/
import Derived.Test.YtdkpdpcecjcmcaaQRd29
import Derived.Test.YtdkpdpcecjcmcaaQRd23
namespace Go.Proofs.Ytdkpdpcecjcmcaa
open Go.RowKit

def fewA (a : Au) : Bool := decide (a.letters ≤ 12) && decide (a.next.length ≤ 14) && decide (a.prio.length ≤ 14) && (List.range a.next.length).all (fun k => decide ((a.next.getD k []).length ≤ 12)) && (List.range a.prio.length).all (fun k => decide ((a.prio.getD k []).length ≤ 12))

set_option maxRecDepth 100000 in
set_option maxHeartbeats 4000000 in
theorem Few_c (w : World) (va : Value) (a : Au) (ha : IsAuto w va a) : Calls Try.prog 11 #[va] w (Calm (.bool (fewA a)) w) := by
  obtain ⟨v2, v3, rfl, -, hv2, hv3⟩ := ha
  obtain ⟨V2, ⟨a2, s2, b2, o2, rfl, gA2⟩, rA2⟩ := hv2
  obtain ⟨V3, ⟨a3, s3, b3, o3, rfl, gA3⟩, rA3⟩ := hv3
  have hnA2 := gA2.nb
  have hnA3 := gA3.nb
  have hB2 : Below w.heap.size w (w.alloc (.cells #[.int .i64 a.letters, .int .i64 a.start, .slice a2 a.next.length s2, .slice a3 a.prio.length s3] 24)) := bel_box _
  have hx1 : (w.alloc (.cells #[.int .i64 a.letters, .int .i64 a.start, .slice a2 a.next.length s2, .slice a3 a.prio.length s3] 24)).heap[w.heap.size]? = some (.cells #[.int .i64 a.letters, .int .i64 a.start, .slice a2 a.next.length s2, .slice a3 a.prio.length s3] 24 (0, 0)) := heap_alloc_new _ _
  by_cases q0 : a.letters ≤ 12
  case neg =>
    have hne0 : decide ((12 : Int) < a.letters) = true := decide_eq_true (by omega)
    have hnn0 : (12 : Int) < a.letters := by omega
    have HF : Hid (fewA a = false) := by show _ = _; simp [fewA, q0]
    clear q0
    go_enter Try.func11, Try.ntmps11
    go_upto_region 1 with (fail)
    generalize (w.alloc (.cells #[.int .i64 a.letters, .int .i64 a.start, .slice a2 a.next.length s2, .slice a3 a.prio.length s3] 24)) = w2 at *
    have d0 := cell_of_row _ _ 0 _ _ _ hx1
    go_wp2
    go_ret
    exact ⟨by rw [HF.out]; rfl, hB2⟩
  have hne0 : decide ((12 : Int) < a.letters) = false := decide_eq_false (by omega)
  have hnn0 : ¬ (12 : Int) < a.letters := by omega
  have HQ0 := Lib.hid q0
  clear q0
  by_cases q1 : a.next.length ≤ 14
  case neg =>
    have hne1 : decide ((14 : Int) < (a.next.length : Int)) = true := decide_eq_true (by omega)
    have hnn1 : (14 : Int) < (a.next.length : Int) := by omega
    have HF : Hid (fewA a = false) := by show _ = _; simp [fewA, q1]
    clear q1
    go_enter Try.func11, Try.ntmps11
    go_upto_region 1 with (fail)
    generalize (w.alloc (.cells #[.int .i64 a.letters, .int .i64 a.start, .slice a2 a.next.length s2, .slice a3 a.prio.length s3] 24)) = w2 at *
    have d0 := cell_of_row _ _ 0 _ _ _ hx1
    have d1 := cell_of_row _ _ 2 _ _ _ hx1
    go_wp2
    go_ret
    exact ⟨by rw [HF.out]; rfl, hB2⟩
  have hne1 : decide ((14 : Int) < (a.next.length : Int)) = false := decide_eq_false (by omega)
  have hnn1 : ¬ (14 : Int) < (a.next.length : Int) := by omega
  have HQ1 := Lib.hid q1
  clear q1
  by_cases q2 : a.prio.length ≤ 14
  case neg =>
    have hne2 : decide ((14 : Int) < (a.prio.length : Int)) = true := decide_eq_true (by omega)
    have hnn2 : (14 : Int) < (a.prio.length : Int) := by omega
    have HF : Hid (fewA a = false) := by show _ = _; simp [fewA, q2]
    clear q2
    go_enter Try.func11, Try.ntmps11
    go_upto_region 1 with (fail)
    generalize (w.alloc (.cells #[.int .i64 a.letters, .int .i64 a.start, .slice a2 a.next.length s2, .slice a3 a.prio.length s3] 24)) = w2 at *
    have d0 := cell_of_row _ _ 0 _ _ _ hx1
    have d1 := cell_of_row _ _ 2 _ _ _ hx1
    have d2 := cell_of_row _ _ 3 _ _ _ hx1
    go_wp2
    go_ret
    exact ⟨by rw [HF.out]; rfl, hB2⟩
  have hne2 : decide ((14 : Int) < (a.prio.length : Int)) = false := decide_eq_false (by omega)
  have hnn2 : ¬ (14 : Int) < (a.prio.length : Int) := by omega
  have HQ2 := Lib.hid q2
  clear q2
  have HNE : Hid (∀ k, k < a.next.length → ¬ (a.next.getD k []).length ≤ 12 → fewA a = false) := fun k hk h => by
    unfold fewA
    rw [rg_all_false _ _ k hk (decide_eq_false h)]; simp
  have HNE2 : Hid (∀ k, k < a.prio.length → ¬ (a.prio.getD k []).length ≤ 12 → fewA a = false) := fun k hk h => by
    unfold fewA
    rw [rg_all_false _ a.prio.length k hk (decide_eq_false h)]; simp
  have HEQ : Hid ((∀ k, k < a.next.length → (a.next.getD k []).length ≤ 12) → (∀ k, k < a.prio.length → (a.prio.getD k []).length ≤ 12) → fewA a = true) := fun h h' => by
    have h0 := HQ0.out
    have h1 := HQ1.out
    have h2 := HQ2.out
    simp only [fewA, Bool.and_eq_true, decide_eq_true_eq, List.all_eq_true, List.mem_range]
    exact ⟨⟨⟨⟨h0, h1⟩, h2⟩, h⟩, h'⟩
  go_enter Try.func11, Try.ntmps11
  go_upto_region 1 with (fail)
  generalize (w.alloc (.cells #[.int .i64 a.letters, .int .i64 a.start, .slice a2 a.next.length s2, .slice a3 a.prio.length s3] 24)) = w2 at *
  have d0 := cell_of_row _ _ 0 _ _ _ hx1
  have d2 := cell_of_row _ _ 2 _ _ _ hx1
  have d3 := cell_of_row _ _ 3 _ _ _ hx1
  have HX1 := Lib.hid hx1
  go_wp2
  clear d0 hx1 hne0 hne1 hne2 hnn0 hnn1 hnn2
  go_loopg [3] a.next.length (fun gh i wr => ∃ k : Nat, gh = a.next.length - k ∧ i = .int .i64 k ∧ k ≤ a.next.length ∧ Hid (∀ j, j < k → (a.next.getD j []).length ≤ 12) ∧ w2 = wr)
  case atStart => exact ⟨0, rfl, rfl, by omega, fun j hj => absurd hj (Nat.not_lt_zero _), rfl⟩
  case round =>
    obtain ⟨k, hgk, rfl, hk, HE, rfl⟩ := hrel
    have HGK := Lib.hid hgk
    clear hgk
    by_cases hlt : k < a.next.length
    · as_aux_lemma =>
      have hk1 : (k : Int) < a.next.length := by omega
      obtain rfl := gA2.ad (by omega)
      have k1 := cellB hB2 (gA2.el k hlt)
      have rA' := rA2 k hlt
      obtain ⟨⟨ax, sx, bx, ox, hvx, gx⟩, -⟩ := rA'
      have hgx := gx.nb
      rw [hvx] at k1
      by_cases h12 : (a.next.getD k []).length ≤ 12
      · have hd : decide ((12 : Int) < ((a.next.getD k []).length : Int)) = false := decide_eq_false (by omega)
        have hd2 : ¬ (12 : Int) < ((a.next.getD k []).length : Int) := by omega
        have HEn : Hid (∀ j, j < k + 1 → (a.next.getD j []).length ≤ 12) := fun j hj => by
          by_cases e : j = k
          · subst e; exact h12
          · exact HE.out j (by omega)
        generalize (a.next.getD k []).length = lx at *
        clear hvx h12
        go_wp2
        go_roundg (a.next.length - (k + 1))
        case measure => have := HGK.out; omega
        case rel => exact ⟨k + 1, rfl, by go_num, by omega, HEn, rfl⟩
      · have hd : decide ((12 : Int) < ((a.next.getD k []).length : Int)) = true := decide_eq_true (by omega)
        have hd2 : (12 : Int) < ((a.next.getD k []).length : Int) := by omega
        have HF := Lib.hid (HNE.out k hlt h12)
        generalize (a.next.getD k []).length = lx at *
        clear hvx h12
        go_wp2
        go_ret
        exact ⟨ret_false HF.out, hB2⟩
    · as_aux_lemma =>
      obtain rfl : k = a.next.length := by omega
      have HEn := HE
      clear HE
      go_wp2
      go_loopg [4] a.prio.length (fun gh i wr => ∃ k : Nat, gh = a.prio.length - k ∧ i = .int .i64 k ∧ k ≤ a.prio.length ∧ Hid (∀ j, j < k → (a.prio.getD j []).length ≤ 12) ∧ w2 = wr)
      case atStart => exact ⟨0, rfl, rfl, by omega, fun j hj => absurd hj (Nat.not_lt_zero _), rfl⟩
      case round =>
        obtain ⟨k, hgk, rfl, hk, HE, rfl⟩ := hrel
        have HGK := Lib.hid hgk
        clear hgk
        by_cases hlt : k < a.prio.length
        · as_aux_lemma =>
          have hk1 : (k : Int) < a.prio.length := by omega
          obtain rfl := gA3.ad (by omega)
          have k1 := cellB hB2 (gA3.el k hlt)
          have rA' := rA3 k hlt
          obtain ⟨⟨ax, sx, bx, ox, hvx, gx⟩, -⟩ := rA'
          have hgx := gx.nb
          rw [hvx] at k1
          by_cases h12 : (a.prio.getD k []).length ≤ 12
          · have hd : decide ((12 : Int) < ((a.prio.getD k []).length : Int)) = false := decide_eq_false (by omega)
            have hd2 : ¬ (12 : Int) < ((a.prio.getD k []).length : Int) := by omega
            have HEn : Hid (∀ j, j < k + 1 → (a.prio.getD j []).length ≤ 12) := fun j hj => by
              by_cases e : j = k
              · subst e; exact h12
              · exact HE.out j (by omega)
            generalize (a.prio.getD k []).length = lx at *
            clear hvx h12
            go_wp2
            go_roundg (a.prio.length - (k + 1))
            case measure => have := HGK.out; omega
            case rel => exact ⟨k + 1, rfl, by go_num, by omega, HEn, rfl⟩
          · have hd : decide ((12 : Int) < ((a.prio.getD k []).length : Int)) = true := decide_eq_true (by omega)
            have hd2 : (12 : Int) < ((a.prio.getD k []).length : Int) := by omega
            have HF := Lib.hid (HNE2.out k hlt h12)
            generalize (a.prio.getD k []).length = lx at *
            clear hvx h12
            go_wp2
            go_ret
            exact ⟨ret_false HF.out, hB2⟩
        · as_aux_lemma =>
          obtain rfl : k = a.prio.length := by omega
          go_wp2
          go_ret
          exact ⟨ret_true (HEQ.out HEn.out HE.out), hB2⟩

end Go.Proofs.Ytdkpdpcecjcmcaa

namespace Go.Proofs.Ytdkpdpcecjcmcaa

/-- The set of moves that a matrix tells. -/
def SetB (n k : Nat) (S : Nat → Nat → Bool) (m : Mv) : Prop := m.1 < n ∧ m.2 < k ∧ S m.1 m.2 = true
/-- A path of at least one edge. -/
def P1 (E : Nat → Nat → Prop) (i j : Nat) : Prop := ∃ u, E i u ∧ Rch E u j
/-- A path whose places between its ends are less than c. -/
inductive PI (E : Nat → Nat → Prop) (c : Nat) : Nat → Nat → Prop
  | one {i j : Nat} : E i j → PI E c i j
  | step {i u j : Nat} : E i u → u < c → PI E c u j → PI E c i j
section
variable {E : Nat → Nat → Prop} {c n i j : Nat}
theorem PI.p1 (h : PI E c i j) : P1 E i j := by
  induction h with
  | one e => exact ⟨_, e, Rch.refl _⟩
  | step e _ _ ih =>
    obtain ⟨u, e2, hr⟩ := ih
    exact ⟨_, e, (Rch.one e2).trans hr⟩
theorem PI.split (h : PI E (c + 1) i j) : PI E c i j ∨ (PI E c i c ∧ PI E c c j) := by
  induction h with
  | one e => exact .inl (.one e)
  | @step i u j e hu _ ih =>
    by_cases huc : u = c
    · subst huc
      rcases ih with h | h
      · exact .inr ⟨.one e, h⟩
      · exact .inr ⟨.one e, h.2⟩
    · have hu' : u < c := by omega
      rcases ih with h | h
      · exact .inl (.step e hu' h)
      · exact .inr ⟨.step e hu' h.1, h.2⟩
theorem PI.snoc {b : Nat} (h : PI E c i b) (hb : b < c) (e : E b j) : PI E c i j := by
  induction h with
  | one e1 => exact .step e1 hb (.one e)
  | step e1 hu _ ih => exact .step e1 hu (ih hb e)
theorem PI.tgt (h : PI E c i j) : ∃ u, E u j := by
  induction h with
  | one e => exact ⟨_, e⟩
  | step _ _ _ ih => exact ih
theorem P1.pi (hE : ∀ u v, E u v → v < n) (h : P1 E i j) : PI E n i j := by
  obtain ⟨u, e, hr⟩ := h
  induction hr with
  | refl => exact .one e
  | step _ e2 ih =>
    obtain ⟨v, ev⟩ := ih.tgt
    exact ih.snoc (hE _ _ ev) e2
theorem P1.trans {k : Nat} (h : P1 E i j) (h' : P1 E j k) : P1 E i k := by
  obtain ⟨u, e, hr⟩ := h
  obtain ⟨v, e2, hr2⟩ := h'
  exact ⟨u, e, hr.trans ((Rch.one e2).trans hr2)⟩
/-- Where the search for paths stands: places up to c0 have been taken, and of place c0 itself the pairs before (i0, j0). -/
structure FW (E : Nat → Nat → Prop) (n : Nat) (M : Nat → Nat → Bool) (c0 i0 j0 : Nat) : Prop where
  so : ∀ i j, i < n → j < n → M i j = true → P1 E i j
  co : ∀ i j, i < n → j < n → PI E c0 i j → M i j = true
  dn : ∀ i j, i < n → j < n → (i < i0 ∨ i = i0 ∧ j < j0) → PI E (c0 + 1) i j → M i j = true
variable {M : Nat → Nat → Bool} {c0 i0 j0 : Nat}
theorem FW.start (h : ∀ i j, i < n → j < n → (M i j = true ↔ E i j)) : FW E n M 0 0 0 := by
  refine ⟨fun i j hi hj hm => ⟨j, (h i j hi hj).1 hm, Rch.refl _⟩, fun i j hi hj hp => ?_, fun i j _ _ hd => by omega⟩
  cases hp with
  | one e => exact (h i j hi hj).2 e
  | step _ hu _ => exact absurd hu (Nat.not_lt_zero _)
theorem FW.put (h : FW E n M c0 i0 j0) (hc : c0 < n) (hi : i0 < n) (hj : j0 < n) (h1 : M i0 c0 = true) (h2 : M c0 j0 = true) : FW E n (upM M i0 j0 true) c0 i0 (j0 + 1) := by
  refine ⟨fun i j hi' hj' hm => ?_, fun i j hi' hj' hp => ?_, fun i j hi' hj' hd hp => ?_⟩
  · unfold upM at hm
    by_cases e : i = i0 ∧ j = j0
    · obtain ⟨rfl, rfl⟩ := e
      exact (h.so i c0 hi' hc h1).trans (h.so c0 j hc hj' h2)
    · rw [if_neg e] at hm; exact h.so i j hi' hj' hm
  · unfold upM
    split
    · rfl
    · exact h.co i j hi' hj' hp
  · unfold upM
    split
    · rfl
    · rename_i e
      exact h.dn i j hi' hj' (by omega) hp
theorem FW.keep (h : FW E n M c0 i0 j0) (hc : c0 < n) (hi : i0 < n) (hj : j0 < n) (hn : ¬ (M i0 c0 = true ∧ M c0 j0 = true)) : FW E n M c0 i0 (j0 + 1) := by
  refine ⟨h.so, h.co, fun i j hi' hj' hd hp => ?_⟩
  by_cases e : i = i0 ∧ j = j0
  · obtain ⟨rfl, rfl⟩ := e
    rcases hp.split with hp | ⟨hp1, hp2⟩
    · exact h.co i j hi' hj' hp
    · exact absurd ⟨h.co i c0 hi' hc hp1, h.co c0 j hc hj' hp2⟩ hn
  · exact h.dn i j hi' hj' (by omega) hp
theorem FW.nexti (h : FW E n M c0 i0 n) : FW E n M c0 (i0 + 1) 0 := ⟨h.so, h.co, fun i j hi hj hd hp => h.dn i j hi hj (by omega) hp⟩
theorem FW.nextc (h : FW E n M c0 n 0) : FW E n M (c0 + 1) 0 0 := ⟨h.so, fun i j hi hj hp => h.dn i j hi hj (.inl hi) hp, fun i j _ _ hd => by omega⟩
theorem FW.done (h : FW E n M n 0 0) (hE : ∀ u v, E u v → v < n) (hi : i < n) (hj : j < n) : M i j = true ↔ P1 E i j :=
  ⟨h.so i j hi hj, fun hp => h.co i j hi hj (hp.pi hE)⟩
end
/-- A row of edges, of the letters before x. -/
def edR (a : Au) (S : Nat → Nat → Bool) (i x j : Nat) : Bool := (List.range x).any fun y => S i y && decide (nxI a i y = j)
section
variable {a : Au} {k : Nat} {S : Nat → Nat → Bool} {i x j : Nat}
theorem edR_succ : edR a S i (x + 1) j = (edR a S i x j || (S i x && decide (nxI a i x = j))) := by unfold edR; rw [List.range_succ, List.any_append]; simp
theorem edR_set (n : Nat) (hs : S i x = true) : (mrow n (edR a S i x)).set (nxI a i x) true = mrow n (edR a S i (x + 1)) := by
  apply List.ext_getElem (by simp [mrow])
  intro c h1 h2
  rw [List.getElem_set]
  simp only [mrow, List.getElem_map, List.getElem_range]
  rw [edR_succ, hs]
  by_cases e : nxI a i x = c
  · rw [if_pos e]; simp [e]
  · rw [if_neg e]; simp [e]
theorem edR_skip (n : Nat) (hs : S i x = false) : mrow n (edR a S i x) = mrow n (edR a S i (x + 1)) := List.map_congr_left fun c _ => by rw [edR_succ, hs]; simp
theorem tgN_nxI (m : Mv) : tgN a.next m = nxI a m.1 m.2 := rfl
theorem edR_iff (hi : i < a.next.length) : edR a S i k j = true ↔ EdS (tgN a.next) (SetB a.next.length k S) i j := by
  unfold edR EdS
  rw [List.any_eq_true]
  constructor
  · rintro ⟨y, hy, h⟩
    simp only [Bool.and_eq_true, decide_eq_true_eq] at h
    exact ⟨(i, y), ⟨hi, List.mem_range.1 hy, h.1⟩, rfl, h.2⟩
  · rintro ⟨⟨i', y⟩, ⟨h1, h2, h3⟩, h4, h5⟩
    have h4 : i' = i := h4
    subst h4
    exact ⟨y, List.mem_range.2 h2, by simp only [Bool.and_eq_true, decide_eq_true_eq]; exact ⟨h3, h5⟩⟩
theorem edS_lt (hA : AuV a k) (u v : Nat) (h : EdS (tgN a.next) (SetB a.next.length k S) u v) : v < a.next.length := by
  obtain ⟨m, ⟨h1, h2, _⟩, _, rfl⟩ := h
  exact hA.nxI h1 h2
end

end Go.Proofs.Ytdkpdpcecjcmcaa
