/- Progress measures: the walk. -/
import Derived.Test.YtijkjhcigdfdgaaQRkW5
namespace Go.Proofs.Ytijkjhcigdfdgaa
open Go.RowKit

theorem pmB_len {g : Gm} {m : List (List Int)} (h : m.length ≠ g.owner.length) : pmB g m = false := by
  unfold pmB; rw [decide_eq_false h]; rfl
theorem pmB_me {g : Gm} {m : List (List Int)} {k : Nat} (hk : k < m.length) (h : meB (moG g) (m.getD k []) = false) : pmB g m = false := by
  have : m.all (meB (moG g)) = false := by
    rw [Bool.eq_false_iff, ne_eq, List.all_eq_true]
    intro h'
    have := h' (m.getD k []) (by rw [getD_lt _ _ _ hk]; exact List.getElem_mem hk)
    rw [h] at this; simp at this
  unfold pmB; rw [this, Bool.and_false]; rfl
theorem pmB_keep {g : Gm} {m : List (List Int)} {k : Nat} (hk : k < g.owner.length) (h : decide (needN g (moG g) (fun u => cdN (moG g) (m.getD u [])) k ≤ cdN (moG g) (m.getD k [])) = false) : pmB g m = false := by
  have : ((List.range g.owner.length).all fun v => decide (needN g (moG g) (fun u => cdN (moG g) (m.getD u [])) v ≤ cdN (moG g) (m.getD v []))) = false := by
    rw [Bool.eq_false_iff, ne_eq, List.all_eq_true]
    intro h'
    have := h' k (List.mem_range.2 hk)
    rw [h] at this; simp at this
  unfold pmB; rw [this, Bool.and_false]
theorem pmB_yes {g : Gm} {m : List (List Int)} (h1 : m.length = g.owner.length) (h2 : ∀ k, k < m.length → meB (moG g) (m.getD k []) = true) (h3 : ∀ k, k < g.owner.length → decide (needN g (moG g) (fun u => cdN (moG g) (m.getD u [])) k ≤ cdN (moG g) (m.getD k [])) = true) : pmB g m = true := by
  have a2 : m.all (meB (moG g)) = true := List.all_eq_true.2 fun x hx => by
    obtain ⟨i, hi, e⟩ := List.getElem_of_mem hx
    have := h2 i hi
    rwa [getD_lt _ _ _ hi, e] at this
  have a3 : ((List.range g.owner.length).all fun v => decide (needN g (moG g) (fun u => cdN (moG g) (m.getD u [])) v ≤ cdN (moG g) (m.getD v []))) = true := List.all_eq_true.2 fun x hx => h3 x (List.mem_range.1 hx)
  unfold pmB; rw [a2, a3, decide_eq_true h1]; rfl

set_option maxRecDepth 100000 in
set_option maxHeartbeats 4000000 in
theorem prog_c (w : World) (vv vm : Value) (g : Gm) (m : List (List Int)) (n : Nat) (hw : IsView w vv g (moG g)) (hm : IsRows w vm m) (hE : RE g n) (hp : ∀ u, u < n → partN (prN g u) ≤ (moG g).length) (hq : ∀ u, u < n → pri g u = (prN g u : Int) ∧ prN g u ≤ 30001)
    (h1 : g.owner.length = n) (h2 : g.prio.length = n) (h3 : g.succ.length = n) :
    Calls Try.prog 42 #[vv, vm] w (Calm (.bool (pmB g m)) w) := by
  have hKp : Hid (m.length = n → (∀ u, u < n → meB (moG g) (m.getD u []) = true) → ∀ W k, Below w.heap.size w W → k < n → Calls Try.prog 60 #[vv, .int .i64 (k : Int), vm] W (Calm (.bool (decide (needN g (moG g) (fun u => cdN (moG g) (m.getD u [])) k ≤ cdN (moG g) (m.getD k [])))) W)) := fun h4 hM W k hW hk => keeps_c W vv vm g _ m k n (hw.below hW) (hm.below hW) hE hM hp hq h1 h2 h3 h4 hk
  obtain ⟨v0, v1, v2, vb, rfl, hg, hI⟩ := hw
  obtain ⟨M, ⟨a3, c3, b3, o3, rfl, A3⟩, R3⟩ := hm
  have hMe : Hid (∀ W k, Below w.heap.size w W → k < m.length → Calls Try.prog 59 #[.agg #[v0, v1, v2, vb], M k] W (Calm (.bool (meB (moG g) (m.getD k []))) W)) := fun W k hW hk => meas_c W _ _ g _ _ (IsView.below ⟨v0, v1, v2, vb, rfl, hg, hI⟩ hW) ((R3 k hk).below hW)
  obtain ⟨g0, g1, g2⟩ := hg.parts3
  obtain ⟨a0, c0, rfl⟩ := g0.shape
  rw [h1] at hKp hMe ⊢
  have HN := Lib.hid h1
  have nn3 := A3.nb
  have HA : Hid (0 < m.length → a3 = some ⟨b3, o3, none⟩) := fun h => A3.ad h
  have HM3 : Hid (∀ j, j < m.length → w.cell? ⟨b3, o3 + j, none⟩ = some (M j)) := fun j hj => A3.el j hj
  have HL : Hid (m.length ≠ n → pmB g m = false) := fun h => pmB_len (by rw [h1]; exact h)
  have HF1 : Hid (∀ k, k < m.length → meB (moG g) (m.getD k []) = false → pmB g m = false) := fun k hk h => pmB_me hk h
  have HF2 : Hid (∀ k, k < n → decide (needN g (moG g) (fun u => cdN (moG g) (m.getD u [])) k ≤ cdN (moG g) (m.getD k [])) = false → pmB g m = false) := fun k hk h => pmB_keep (by rw [h1]; exact hk) h
  have HY : Hid (m.length = n → (∀ k, k < m.length → meB (moG g) (m.getD k []) = true) → (∀ k, k < n → decide (needN g (moG g) (fun u => cdN (moG g) (m.getD u [])) k ≤ cdN (moG g) (m.getD k [])) = true) → pmB g m = true) := fun e a b => pmB_yes (e.trans h1.symm) a (fun k hk => b k (by rw [← h1]; exact hk))
  obtain ⟨K, hK⟩ : ∃ K : Nat → Bool, ∀ k, K k = decide (needN g (moG g) (fun u => cdN (moG g) (m.getD u [])) k ≤ cdN (moG g) (m.getD k [])) := ⟨_, fun _ => rfl⟩
  obtain ⟨E, hEE⟩ : ∃ E : Nat → Bool, ∀ k, E k = meB (moG g) (m.getD k []) := ⟨_, fun _ => rfl⟩
  simp only [← hK, ← hEE] at hKp hMe HF1 HF2 HY
  clear hK hEE hE hp hq A3 R3 g0 g1 g2 hg hI h1 h2 h3
  generalize pmB g m = res at *
  generalize m.length = l at *
  have hx : (w.alloc (.cells #[.slice a0 n c0, v1, v2, vb] 49)).heap[w.heap.size]? = some (.cells #[.slice a0 n c0, v1, v2, vb] 49 (0, 0)) := (by (repeat (rw [alloc_get]; first | rw [if_pos (by first | (simp; done) | (simp; omega))] | rw [if_neg (by first | (simp; done) | (simp; omega))])); (try rfl))
  have hB : Below w.heap.size w (w.alloc (.cells #[.slice a0 n c0, v1, v2, vb] 49)) := (by repeat (first | exact Below.refl _ _ | assumption | (refine belA ?_ _) | (refine belD ?_ _)))
  go_enter Try.func42, Try.ntmps42
  go_upto_region 1 with (fail)
  generalize (w.alloc (.cells #[.slice a0 n c0, v1, v2, vb] 49)) = w1 at *
  have q0 := cell_of_row _ _ 0 _ _ _ hx
  have q1 := cell_of_row _ _ 1 _ _ _ hx
  have q2 := cell_of_row _ _ 2 _ _ _ hx
  have q3 := cell_of_row _ _ 3 _ _ _ hx
  have HB := Lib.hid hB
  clear hx hB
  by_cases hln : l = n
  case neg =>
    have t1 : ((l : Int) != (n : Int)) = true := by simp; omega
    have HE := Lib.hid (HL.out hln)
    clear hln
    go_wp2
    go_ret
    exact ⟨ret_bool HE.out.symm, HB.out⟩
  have t1 : ((l : Int) != (n : Int)) = false := by simp; omega
  subst hln
  have hKq := hKp.out rfl
  have HYq := HY.out rfl
  go_upto_region 4 with (fail)
  go_loopg [6, 17] l (fun gh _ i wr => ∃ k : Nat, gh = l - k ∧ i = .int .i64 (k : Int) ∧ k ≤ l ∧ Hid (∀ j, j < k → E j = true) ∧ Hid (Below w1.heap.size w1 wr))
  case atStart => exact ⟨0, rfl, rfl, by omega, fun j hj => by omega, Below.refl _ _⟩
  case round =>
    obtain ⟨k, hgk, rfl, hk, HD, HW⟩ := hrel
    have HGK := Lib.hid hgk
    clear hgk
    have HBW := Lib.hid (HB.out.trans (HW.out.mono HB.out.size))
    replace q0 := cellB HW.out q0
    replace q1 := cellB HW.out q1
    replace q2 := cellB HW.out q2
    replace q3 := cellB HW.out q3
    by_cases hlt : k < l
    · have hk1 : (k : Int) < (l : Int) := by omega
      obtain rfl := HA.out (by omega)
      have r1 := cellB HBW.out (HM3.out k hlt)
      have HC := Lib.hid (hMe.out wr k HBW.out hlt)
      have HX : Hid (E k = false → res = false) := HF1.out k hlt
      have HD2 : Hid (E k = true → ∀ j, j < k + 1 → E j = true) := fun h j hj => by
        rcases Nat.lt_or_eq_of_le (Nat.le_of_lt_succ hj) with h2 | h2
        · exact HD.out j h2
        · rw [h2]; exact h
      generalize M k = Mk at *
      go_wp2_with fail
      refine HC.out.mono ?_
      rintro e w2 ⟨rfl, hb⟩
      have HW2 := Lib.hid (HW.out.trans (hb.mono HW.out.size))
      have HB2 := Lib.hid (HB.out.trans (HW2.out.mono HB.out.size))
      clear hb r1
      cases he : E k
      · have HE := Lib.hid (HX.out he)
        go_wp2
        go_ret
        exact ⟨ret_bool HE.out.symm, HB2.out⟩
      · have HD3 := Lib.hid (HD2.out he)
        go_wp2
        go_roundg (l - (k + 1))
        case measure => have := HGK.out; omega
        case rel => exact ⟨k + 1, rfl, by go_num, by omega, HD3, HW2⟩
    · have hd : ¬ (k : Int) < (l : Int) := by omega
      have HD1 : Hid (∀ j, j < l → E j = true) := fun j hj => HD.out j (by omega)
      have HKK := Lib.hid (hKq HD1.out)
      have HYY := Lib.hid (HYq HD1.out)
      clear hKq HYq HD hd
      go_wp2
      go_loopg [7, 28] l (fun gh _ i wr2 => ∃ k : Nat, gh = l - k ∧ i = .int .i64 (k : Int) ∧ k ≤ l ∧ Hid (∀ j, j < k → K j = true) ∧ Hid (Below w1.heap.size w1 wr2) ∧ Hid (Below wr.heap.size wr wr2))
      case atStart => exact ⟨0, rfl, rfl, by omega, fun j hj => by omega, HW, Below.refl _ _⟩
      case round =>
        obtain ⟨k, hgk, rfl, hk, HD, HW2, HWr⟩ := hrel
        have HGK := Lib.hid hgk
        clear hgk
        have HBW2 := Lib.hid (HB.out.trans (HW2.out.mono HB.out.size))
        replace q0 := cellB HWr.out q0
        replace q1 := cellB HWr.out q1
        replace q2 := cellB HWr.out q2
        replace q3 := cellB HWr.out q3
        by_cases hlt : k < l
        · have hk1 : (k : Int) < (l : Int) := by omega
          have HC := Lib.hid (HKK.out _ k HBW2.out hlt)
          have HX : Hid (K k = false → res = false) := HF2.out k hlt
          have HD2 : Hid (K k = true → ∀ j, j < k + 1 → K j = true) := fun h j hj => by
            rcases Nat.lt_or_eq_of_le (Nat.le_of_lt_succ hj) with h2 | h2
            · exact HD.out j h2
            · rw [h2]; exact h
          go_wp2_with fail
          refine HC.out.mono ?_
          rintro e w3 ⟨rfl, hb⟩
          have HW3 := Lib.hid (HW2.out.trans (hb.mono HW2.out.size))
          have HWr3 := Lib.hid (HWr.out.trans (hb.mono HWr.out.size))
          have HB3 := Lib.hid (HB.out.trans (HW3.out.mono HB.out.size))
          clear hb
          cases he : K k
          · have HE := Lib.hid (HX.out he)
            go_wp2
            go_ret
            exact ⟨ret_bool HE.out.symm, HB3.out⟩
          · have HD3 := Lib.hid (HD2.out he)
            go_wp2
            go_roundg (l - (k + 1))
            case measure => have := HGK.out; omega
            case rel => exact ⟨k + 1, rfl, by go_num, by omega, HD3, HW3, HWr3⟩
        · have hd : ¬ (k : Int) < (l : Int) := by omega
          have HE : Hid (res = true) := HYY.out (fun j hj => HD.out j (by omega))
          go_wp2
          go_ret
          exact ⟨ret_bool HE.out.symm, HBW2.out⟩

end Go.Proofs.Ytijkjhcigdfdgaa
