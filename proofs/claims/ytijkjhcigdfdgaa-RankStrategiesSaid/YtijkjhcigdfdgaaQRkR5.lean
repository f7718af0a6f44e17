/- What the reference takes for a measure; Same. -/
import Derived.Test.YtijkjhcigdfdgaaQRkR3
namespace Go.Proofs.Ytijkjhcigdfdgaa
open Go.RowKit

theorem me_len {mo : List Nat} {l : List Int} (hn : l ≠ []) (h : l.length ≠ max mo.length 1) : meB mo l = false := by
  rw [Bool.eq_false_iff]
  intro hm
  rcases meB_iff.1 hm with h' | ⟨h', h''⟩ | ⟨h', h'', -⟩
  · exact hn h'
  · rw [h', h''] at h; exact h rfl
  · have := List.length_pos_iff.2 h'; omega
theorem me_out {mo : List Nat} {l : List Int} (hn : l ≠ []) {i : Nat} (hi : i < mo.length) (h : l.getD i 0 < 0 ∨ (mo.getD i 0 : Int) < l.getD i 0) : meB mo l = false := by
  rw [Bool.eq_false_iff]
  intro hm
  have := me_rg hm hn i hi
  omega

set_option maxRecDepth 100000 in
set_option maxHeartbeats 4000000 in
theorem rmeas_c (w : World) (vb vm : Value) (mo : List Nat) (m : List Int) (hb : IsInts w vb (castM mo)) (hm : IsInts w vm m) (hmb : ∀ k, mo.getD k 0 ≤ 3000) :
    Calls Try.prog 61 #[vb, vm] w (Quiet (.bool (meB mo m)) w) := by
  obtain ⟨am, cm, rfl⟩ := hm.shape
  obtain ⟨bm, om, dm, nm, fm⟩ := hm.dat
  obtain ⟨ab, cb, rfl⟩ := hb.shape
  obtain ⟨bb, ob, db, nb, fb⟩ := hb.dat
  rw [castM_len] at db nb fb ⊢
  clear hm hb
  by_cases h0 : m = []
  · have HE : Hid (meB mo m = true) := meB_iff.2 (.inl h0)
    have t1 : ((m.length : Int) == 0) = true := by rw [h0]; rfl
    clear h0 dm fm db fb hmb
    generalize meB mo m = res at *
    generalize m.length = lm at *
    go_enter Try.func61, Try.ntmps61
    go_wp2_with (go_at_call 24; refine (Top_c _ _ _ _ _ t1).mono ?_; rintro e w' ⟨rfl, rfl⟩)
    go_ret
    exact ⟨ret_bool HE.out.symm, 0, rfl⟩
  have hpos : 0 < m.length := List.length_pos_iff.2 h0
  have t1 : ((m.length : Int) == 0) = false := by rw [beq_eq_false_iff_ne]; omega
  obtain rfl := dm hpos
  have HFM : Hid (∀ j, j < m.length → w.cell? ⟨bm, om + j, none⟩ = some (.int .i64 (m.getD j 0))) := fun j hj => fm j (by omega)
  have HFB : Hid (∀ j, j < mo.length → w.cell? ⟨bb, ob + j, none⟩ = some (.int .i64 (mo.getD j 0 : Int))) := fun j hj => by rw [fb j hj, castM_get hj]
  have HDB : Hid (0 < mo.length → ab = some ⟨bb, ob, none⟩) := db
  have HLE : Hid (m.length ≠ max mo.length 1 → meB mo m = false) := me_len h0
  have HOU : Hid (∀ i, i < mo.length → m.getD i 0 < 0 ∨ (mo.getD i 0 : Int) < m.getD i 0 → meB mo m = false) := fun i hi h => me_out h0 hi h
  have HYE : Hid (m.length = max mo.length 1 → (∀ i, i < mo.length → 0 ≤ m.getD i 0 ∧ m.getD i 0 ≤ (mo.getD i 0 : Int)) → (mo = [] → m.getD 0 0 = 0) → meB mo m = true) := me_of
  have HNO : Hid (mo = [] → m.getD 0 0 ≠ 0 → meB mo m = false) := fun e h => by
    rw [Bool.eq_false_iff]
    intro hm
    rcases meB_iff.1 hm with h' | ⟨h', h''⟩ | ⟨h', h'', -⟩
    · exact h0 h'
    · rw [h''] at h; exact h rfl
    · exact h' e
  have HMB : Hid (∀ k, mo.getD k 0 ≤ 3000) := hmb
  have c0 := HFM.out 0 hpos
  rw [Nat.add_zero] at c0
  clear fm fb db dm h0 hmb
  have t2 : (0 : Int) < (m.length : Int) := by omega
  by_cases hmo : mo = []
  · subst hmo
    have HLE2 : Hid (m.length ≠ 1 → meB [] m = false) := HLE.out
    have HYE2 : Hid (m.length = 1 → m.getD 0 0 = 0 → meB [] m = true) := fun h h' => HYE.out h (fun i hi => by simp at hi) fun _ => h'
    have HNO2 : Hid (m.getD 0 0 ≠ 0 → meB [] m = false) := HNO.out rfl
    show Calls _ _ #[.slice ab 0 cb, _] w _
    clear HLE HYE HNO HOU HDB HFB HFM HMB nb
    generalize meB [] m = res at *
    generalize m.length = lm at *
    generalize m.getD 0 0 = x at *
    by_cases hl : lm = 1
    · by_cases hx : x = 0
      · have HE := Lib.hid (HYE2.out hl hx)
        subst hl hx
        go_enter Try.func61, Try.ntmps61
        go_wp2_with (go_at_call 24; refine (Top_c _ _ _ _ _ t1).mono ?_; rintro e w' ⟨rfl, rfl⟩)
        go_loopg [5] 0 (fun gh i wr => gh = 0 ∧ i = .int .i64 0 ∧ wr = w)
        case atStart => exact ⟨rfl, rfl, rfl⟩
        case round =>
          obtain ⟨rfl, rfl, rfl⟩ := hrel
          go_wp2
          go_ret
          exact ⟨ret_bool HE.out.symm, 0, rfl⟩
      · have HE := Lib.hid (HNO2.out hx)
        have t5 : (x != 0) = true := by simpa using hx
        subst hl
        clear hx
        go_enter Try.func61, Try.ntmps61
        go_wp2_with (go_at_call 24; refine (Top_c _ _ _ _ _ t1).mono ?_; rintro e w' ⟨rfl, rfl⟩)
        go_ret
        exact ⟨ret_bool HE.out.symm, 0, rfl⟩
    · have HE := Lib.hid (HLE2.out hl)
      have t5 : ((lm : Int) != 1) = true := by simp; omega
      clear hl
      go_enter Try.func61, Try.ntmps61
      go_wp2_with (go_at_call 24; refine (Top_c _ _ _ _ _ t1).mono ?_; rintro e w' ⟨rfl, rfl⟩)
      go_ret
      exact ⟨ret_bool HE.out.symm, 0, rfl⟩
  have hml : 0 < mo.length := List.length_pos_iff.2 hmo
  obtain rfl := HDB.out hml
  have HLE2 : Hid (m.length ≠ mo.length → meB mo m = false) := fun h => HLE.out (by omega)
  have HYE2 : Hid (m.length = mo.length → (∀ i, i < mo.length → 0 ≤ m.getD i 0 ∧ m.getD i 0 ≤ (mo.getD i 0 : Int)) → meB mo m = true) := fun h h' => HYE.out (by omega) h' fun e => absurd e hmo
  clear HLE HYE HNO HDB hmo
  generalize meB mo m = res at *
  generalize m.length = lm at *
  generalize mo.length = n at *
  generalize m.getD 0 0 = x0 at *
  have t3 : ¬ (n : Int) < 1 := by omega
  have t4 : ((n : Int) == 0) = false := by rw [beq_eq_false_iff_ne]; omega
  by_cases hl : lm = n
  · subst hl
    have HYE3 : Hid ((∀ i, i < lm → 0 ≤ m.getD i 0 ∧ m.getD i 0 ≤ (mo.getD i 0 : Int)) → res = true) := HYE2.out rfl
    clear HYE2 HLE2
    go_enter Try.func61, Try.ntmps61
    go_wp2_with (go_at_call 24; refine (Top_c _ _ _ _ _ t1).mono ?_; rintro e w' ⟨rfl, rfl⟩)
    go_loopg [5] lm (fun gh i wr => ∃ k nd : Nat, gh = lm - k ∧ i = .int .i64 (k : Int) ∧ k ≤ lm ∧ Hid (∀ i, i < k → 0 ≤ m.getD i 0 ∧ m.getD i 0 ≤ (mo.getD i 0 : Int)) ∧ Hid (wr = w.drewN nd))
    case atStart => exact ⟨0, 0, rfl, rfl, by omega, fun i hi => by omega, rfl⟩
    case round =>
      obtain ⟨k, nd, hgk, rfl, hk, HA, HW⟩ := hrel
      have HGK := Lib.hid hgk
      clear hgk
      by_cases hlt : k < lm
      · as_aux_lemma =>
        have HBW : Hid (Below w.heap.size w wr) := by show Below _ _ _; rw [HW.out]; exact below_draws _ _ _
        have e1 := cellB HBW.out (HFM.out k hlt)
        have e2 := cellB HBW.out (HFB.out k hlt)
        have i1 : (k : Int) < (lm : Int) := by omega
        have HO := Lib.hid (HOU.out k hlt)
        have hy := HMB.out k
        have HX : Hid (0 ≤ m.getD k 0 → m.getD k 0 ≤ (mo.getD k 0 : Int) → ∀ i, i < k + 1 → 0 ≤ m.getD i 0 ∧ m.getD i 0 ≤ (mo.getD i 0 : Int)) := fun a b i hi => by
          by_cases e : i = k
          · subst e; exact ⟨a, b⟩
          · exact HA.out i (by omega)
        generalize m.getD k 0 = x at *
        generalize mo.getD k 0 = y at *
        by_cases hx : x < 0
        · have HE := Lib.hid (HO.out (.inl hx))
          have t5 : decide (x < 0) = true := decide_eq_true hx
          clear hx
          go_upto_region 8 with (fail)
          go_quiet (fail)
          go_wp2
          go_ret
          exact ⟨ret_bool HE.out.symm, _, by rw [HW.out, World.drewN_drewN]⟩
        · have t5 : decide (x < 0) = false := decide_eq_false hx
          by_cases hxy : (y : Int) < x
          · have HE := Lib.hid (HO.out (.inr hxy))
            have t6 : decide ((y : Int) < x) = true := decide_eq_true hxy
            clear hx hxy
            go_upto_region 8 with (fail)
            go_quiet (fail)
            go_wp2
            go_ret
            exact ⟨ret_bool HE.out.symm, _, by rw [HW.out, World.drewN_drewN]⟩
          · have t6 : decide ((y : Int) < x) = false := decide_eq_false hxy
            have HX2 := Lib.hid (HX.out (by omega) (by omega))
            clear hx hxy
            go_upto_region 8 with (fail)
            go_quiet (fail)
            go_wp2
            go_roundg (lm - (k + 1))
            case measure => have := HGK.out; omega
            case rel => exact ⟨k + 1, _, rfl, by go_num, by omega, HX2, by show _ = _; rw [HW.out, World.drewN_drewN]⟩
      · as_aux_lemma =>
        obtain rfl : k = lm := by omega
        have i1 : ¬ (k : Int) < (k : Int) := by omega
        have HE := Lib.hid (HYE3.out HA.out)
        go_wp2
        go_ret
        exact ⟨ret_bool HE.out.symm, _, HW.out⟩
  · have HE := Lib.hid (HLE2.out hl)
    have t5 : ((lm : Int) != (n : Int)) = true := by simp; omega
    clear hl
    go_enter Try.func61, Try.ntmps61
    go_wp2_with (go_at_call 24; refine (Top_c _ _ _ _ _ t1).mono ?_; rintro e w' ⟨rfl, rfl⟩)
    go_ret
    exact ⟨ret_bool HE.out.symm, 0, rfl⟩

set_option maxRecDepth 100000 in
set_option maxHeartbeats 4000000 in
theorem Same_c (w : World) (va vb : Value) (a b : List (List Int)) (ha : IsRows w va a) (hb : IsRows w vb b) :
    Calls Try.prog 13 #[va, vb] w (Quiet (.bool (decide (a = b))) w) := by
  obtain ⟨aa, ca, ba, oa, V, rfl, da, na, fa⟩ := ha.data
  obtain ⟨ab, cb, bb, ob, U, rfl, db, nb, fb⟩ := hb.data
  clear ha hb
  by_cases hl : a.length = b.length
  · have HLL := Lib.hid hl
    have t0 : ((a.length : Int) != (b.length : Int)) = false := by simp; omega
    have HIC : Hid (∀ W j, Below w.heap.size w W → j < a.length → Calls Try.prog 18 #[V j, U j] W (Quiet (.bool (decide (a.getD j [] = b.getD j []))) W)) := fun W j h hj => Ints_c W _ _ _ _ ((fa j hj).2.below h) ((fb j (by omega)).2.below h)
    have HA : Hid (∀ j, j < a.length → w.cell? ⟨ba, oa + j, none⟩ = some (V j)) := fun j hj => (fa j hj).1
    have HB : Hid (∀ j, j < a.length → w.cell? ⟨bb, ob + j, none⟩ = some (U j)) := fun j hj => (fb j (by omega)).1
    have HDA := Lib.hid da
    have HDB : Hid (0 < a.length → ab = some ⟨bb, ob, none⟩) := fun h => db (by omega)
    rw [← hl]
    rw [← hl] at t0
    clear fa fb da db hl nb
    go_enter Try.func13, Try.ntmps13
    go_wp2_with fail
    go_loopg [5] a.length (fun gh i wr => ∃ k nd : Nat, gh = a.length - k ∧ i = .int .i64 (k : Int) ∧ k ≤ a.length ∧ Hid (a.take k = b.take k) ∧ Hid (wr = w.drewN nd))
    case atStart => exact ⟨0, 0, rfl, rfl, by omega, rfl, rfl⟩
    case round =>
      obtain ⟨k, nd, hgk, rfl, hk, HT, HW⟩ := hrel
      have HGK := Lib.hid hgk
      clear hgk
      by_cases hlt : k < a.length
      · as_aux_lemma =>
        obtain rfl := HDA.out (by omega)
        obtain rfl := HDB.out (by omega)
        have HBW : Hid (Below w.heap.size w wr) := by show Below _ _ _; rw [HW.out]; exact below_draws _ _ _
        have e1 := cellB HBW.out (HA.out k hlt)
        have e2 := cellB HBW.out (HB.out k hlt)
        have i1 : (k : Int) < (a.length : Int) := by omega
        have HI : Hid (∀ W, Below w.heap.size w W → Calls Try.prog 18 #[V k, U k] W (Quiet (.bool (decide (a.getD k [] = b.getD k []))) W)) := fun W h => HIC.out W k h hlt
        have hlb : k < b.length := by have := HLL.out; omega
        by_cases he : a.getD k [] = b.getD k []
        · have HT2 : Hid (a.take (k + 1) = b.take (k + 1)) := take_succ_eq hlt hlb HT.out (by rwa [getD_lt _ _ _ hlt, getD_lt _ _ _ hlb] at he)
          rw [decide_eq_true he] at HI
          clear he
          generalize V k = Vk at *
          generalize U k = Uk at *
          go_upto_region 6 with (fail)
          go_quiet ((go_at_call 18; refine (HI.out _ (by repeat (first | exact HBW.out | refine belD ?_ _))).mono ?_; rintro e w' ⟨rfl, n', rfl⟩; exact ⟨rfl, _, by rw [World.drewN_drewN]⟩))
          go_wp2
          go_roundg (a.length - (k + 1))
          case measure => have := HGK.out; omega
          case rel => exact ⟨k + 1, _, rfl, by go_num, by omega, HT2, by show _ = _; rw [HW.out, World.drewN_drewN]⟩
        · have HN : Hid (a ≠ b) := fun e => he (by rw [e])
          rw [decide_eq_false he] at HI
          clear he
          generalize V k = Vk at *
          generalize U k = Uk at *
          go_upto_region 6 with (fail)
          go_quiet ((go_at_call 18; refine (HI.out _ (by repeat (first | exact HBW.out | refine belD ?_ _))).mono ?_; rintro e w' ⟨rfl, n', rfl⟩; exact ⟨rfl, _, by rw [World.drewN_drewN]⟩))
          go_wp2
          go_ret
          exact ⟨ret_bool (decide_eq_false HN.out).symm, _, by rw [HW.out, World.drewN_drewN]⟩
      · as_aux_lemma =>
        have HE : Hid (a = b) := by
          have := HT.out
          rw [List.take_of_length_le (by omega), List.take_of_length_le (by have := HLL.out; omega)] at this
          exact this
        have i1 : ¬ (k : Int) < (a.length : Int) := by omega
        go_wp2
        go_ret
        exact ⟨ret_bool (decide_eq_true HE.out).symm, _, HW.out⟩
  · have HN : Hid (a ≠ b) := fun e => hl (by rw [e])
    have t0 : ((a.length : Int) != (b.length : Int)) = true := by simp; omega
    clear hl
    go_enter Try.func13, Try.ntmps13
    go_wp2
    go_ret
    exact ⟨ret_bool (decide_eq_false HN.out).symm, 0, rfl⟩

end Go.Proofs.Ytijkjhcigdfdgaa
