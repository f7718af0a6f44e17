/- What the law's values, the reference's Small and Ints compute. -/
import Derived.Test.YtlfackilmpnlhaaDoorSg24
namespace Go.Proofs.YtlfackilmpnlhaaDoor
open Go.RowKit

def valuesI (l : List Sig) (a : Int) : List Int := (List.range l.length).map fun (i : Nat) => valueI l a (i : Int)

theorem value_bd (l : List Sig) (a i : Int) : 0 ≤ valueI l a i ∧ valueI l a i ≤ 3 := by
  unfold valueI
  split
  · rename_i h
    have hv : validS l = true := by
      have h1 := h.2.1
      unfold lettersI at h1
      cases hv : validS l
      · rw [hv] at h1; simp at h1; omega
      · rfl
    have hj : i.toNat < l.length := by omega
    rw [getD_lt _ _ _ hj]
    have hs := sizes_posV (valid_sizes hv).1 _ (List.getElem_mem hj)
    have h1 := Int.emod_nonneg (a / prodL (l.take i.toNat)) (show l[i.toNat].size ≠ 0 by omega)
    have h2 := Int.emod_lt_of_pos (a / prodL (l.take i.toNat)) (show 0 < l[i.toNat].size by omega)
    omega
  · omega

set_option maxRecDepth 100000 in
set_option maxHeartbeats 4000000 in
theorem values_c (w : World) (vl : Value) (l : List Sig) (a : Int) (ha : I64 a) (hlen : l.length ≤ 10) (hK : Keys w) (hl : IsSigs w vl l) :
    Calls Tryd.prog 33 #[vl, .int .i64 a] w (NewI (valuesI l a) w) := by
  have hV : Hid (∀ (W : World) (k : Nat), k < l.length → Below w.heap.size w W → Calls Tryd.prog 25 #[vl, .int .i64 a, .int .i64 (k : Int)] W (Calm (.int .i64 (valueI l a k)) W)) := fun W k hk hW => Value_c W vl l a k ha (by unfold I64; omega) (hK.below hW) (hl.below hW)
  obtain ⟨ao, cap, b, off, rfl, hl⟩ := hl
  have hn := hl.nb
  have HN : Hid (∀ k, k < l.length → (valuesI l a).take (k + 1) = (valuesI l a).take k ++ [valueI l a k]) := fun k hk => by
    rw [List.take_succ_eq_append_getElem (by simpa [valuesI] using hk)]
    simp [valuesI]
  have HT : Hid ((valuesI l a).take l.length = valuesI l a) := List.take_of_length_le (by simp [valuesI])
  have HBD := Lib.hid (value_bd l a)
  clear hl ha hK
  generalize valuesI l a = vs at *
  generalize hf : valueI l a = f at *
  clear hf
  go_enter Tryd.func33, Tryd.ntmps33
  go_wp2
  have hB0 : Below w.heap.size w (w.alloc (.cells #[] 3)) := bel_box _
  have hO0 : OI (w.alloc (.cells #[] 3)) w.heap.size (.slice (some ⟨w.heap.size, 0, none⟩) 0 0) [] := OI_empty w _ rfl
  generalize (w.alloc (.cells #[] 3)) = w2 at *
  go_loopg [5, 6] l.length (fun gh vo i wr => ∃ k : Nat, gh = l.length - k ∧ i = .int .i64 k ∧ k ≤ l.length ∧ OI wr w.heap.size vo (vs.take k) ∧ Below w.heap.size w wr)
  case atStart => exact ⟨0, rfl, rfl, by omega, by simpa using hO0, hB0⟩
  case round =>
    obtain ⟨k, hgk, rfl, hk, hO, hB⟩ := hrel
    have HG := Lib.hid hgk
    clear hgk
    by_cases hlt : k < l.length
    · have HT2 := Lib.hid (HN.out k hlt)
      have hC := Lib.hid (hV.out wr k hlt hB)
      have hlk : (vs.take k).length < 17592186043904 := by rw [List.length_take]; omega
      have HO := Lib.hid hO
      clear hO
      go_wp2_with fail
      refine hC.out.mono ?_
      rintro e w3 ⟨rfl, hb3⟩
      have hB3 := hB.trans (hb3.mono hB.size)
      have hBs3 := hB3.size
      have HO3 := Lib.hid (HO.out.below hb3)
      generalize f (k : Int) = fk at *
      go_wp2_with (at_builtin; refine app_int rfl _ _ fk rfl w.heap.size _ _ HO3.out rfl _ (by simp) rfl hlk hBs3 ?_; intro v' w' hown' hg hmv)
      go_roundg (l.length - (k + 1))
      case measure => have := HG.out; omega
      case rel => exact ⟨k + 1, rfl, by go_num, by omega, by rw [HT2.out]; exact hown', hB3.grown hg hBs3 HO3.out.ge⟩
    · obtain rfl : k = l.length := by omega
      go_wp2
      go_ret
      exact ⟨_, rfl, by rwa [HT.out] at hO, hB⟩

def smallS (l : List Sig) : Bool := decide (l.length ≤ 10) && l.all (fun s => decide (s.name.size ≤ 40))

theorem Small_c (w : World) (vl : Value) (l : List Sig) (hl : IsSigs w vl l) :
    Calls Tryd.prog 10 #[vl] w (fun e w' => e = .returned (.bool (smallS l)) ∧ w = w') := by
  obtain ⟨ao, cap, b, off, rfl, hl⟩ := hl
  have hn := hl.nb
  by_cases h10 : (10 : Int) < l.length
  · go_enter Tryd.func10, Tryd.ntmps10
    go_wp2
    go_ret
    exact ⟨ret_bool (by simp [smallS]; omega), rfl⟩
  go_enter Tryd.func10, Tryd.ntmps10
  go_wp2
  go_loop [3] (fun i => ∃ k : Nat, i = .int .i64 k ∧ k ≤ l.length ∧ Hid ((l.take k).all (fun s => decide (s.name.size ≤ 40)) = true)) (fun i => l.length - (intOf i).toNat)
  case atStart => exact ⟨0, rfl, by omega, by show _ = _; simp⟩
  case round =>
    obtain ⟨k, rfl, hk, HA⟩ := hrel
    by_cases hlt : k < l.length
    · obtain rfl := hl.ad (by omega)
      have c1 := hl.nn k hlt
      have hs9 := hl.sn _ (List.getElem_mem hlt)
      unfold maxN at hs9
      have HS := Lib.hid (all_take_succ l (fun s => decide (s.name.size ≤ 40)) k hlt)
      by_cases hs : (40 : Int) < l[k].name.size
      · have HF : Hid (smallS l = false) := by
          show _ = _
          rw [smallS, all_false_of l (fun s => decide (s.name.size ≤ 40)) k hlt (by simp; omega)]; simp
        go_wp2
        go_ret
        exact ⟨ret_bool (by rw [HF.out]), rfl⟩
      · go_wp2
        go_round
        case rel => exact ⟨k + 1, by go_num, by omega, by show _ = _; rw [HS.out, HA.out]; simp; omega⟩
        case measure => simp [intOf]; omega
    · obtain rfl : k = l.length := by omega
      have HF : Hid (smallS l = true) := by
        show _ = _
        have := HA.out
        rw [List.take_length] at this
        rw [smallS, this]; simp; omega
      go_wp2
      go_ret
      exact ⟨ret_bool (by rw [HF.out]), rfl⟩

set_option maxHeartbeats 2000000 in
theorem Ints_c (w : World) (va vb : Value) (a b : List Int) (ha : IsInts w va a) (hb : IsInts w vb b) :
    Calls Tryd.prog 34 #[va, vb] w (Quiet (.bool (decide (a = b))) w) := by
  obtain ⟨⟨aa, ca, ba, oa, rfl, ha⟩, har⟩ := ha
  obtain ⟨⟨ab, cb, bb, ob, rfl, hb⟩, hbr⟩ := hb
  have hna := ha.nb
  have hnb := hb.nb
  clear har hbr
  by_cases hlen : a.length = b.length
  case neg =>
    have hne : ((a.length : Int) != b.length) = true := by simp; omega
    have HF : Hid (decide (a = b) = false) := decide_eq_false (fun e => hlen (by rw [e]))
    clear hlen
    go_enter Tryd.func34, Tryd.ntmps34
    go_wp2
    go_ret
    exact ⟨ret_bool (by rw [HF.out]), 0, rfl⟩
  have hne : ((a.length : Int) != b.length) = false := by simp; omega
  have HLN := Lib.hid hlen
  clear hlen
  go_enter Tryd.func34, Tryd.ntmps34
  go_wp2
  go_loopw [5] (fun i wr => ∃ (k m : Nat), i = .int .i64 k ∧ k ≤ a.length ∧ Hid (a.take k = b.take k) ∧ wr = w.drewN m) (fun i _ => a.length - (intOf i).toNat)
  case atStart => exact ⟨0, 0, rfl, by omega, by show _ = _; simp, rfl⟩
  case round =>
    obtain ⟨k, m, rfl, hk, HE, rfl⟩ := hrel
    by_cases hlt : k < a.length
    · have hltb : k < b.length := by rw [← HLN.out]; exact hlt
      obtain rfl := ha.ad (by omega)
      obtain rfl := hb.ad (by omega)
      have c1 := ha.el k hlt
      have c2 := hb.el k hltb
      unfold ivF at c1 c2
      rw [getD_lt _ _ _ hlt] at c1
      rw [getD_lt _ _ _ hltb] at c2
      by_cases hq : a[k] = b[k]
      · have hq2 : (a[k] != b[k]) = false := by simp [hq]
        have HE2 : Hid (a.take (k + 1) = b.take (k + 1)) := take_succ_eq hlt hltb HE.out hq
        clear hq
        go_wp2
        go_quiet (fail)
        go_wp2
        go_roundw
        case rel => exact ⟨k + 1, _, by go_num, by omega, HE2.out, rfl⟩
        case measure => simp [intOf]; omega
      · have hq2 : (a[k] != b[k]) = true := by simp [hq]
        have HF : Hid (decide (a = b) = false) := decide_eq_false (fun e => hq (by subst e; rfl))
        clear hq
        go_wp2
        go_quiet (fail)
        go_wp2
        go_ret
        exact ⟨ret_bool (by rw [HF.out]), m + nq, by simp [World.drewN, Nat.add_assoc]⟩
    · obtain rfl : k = a.length := by omega
      have HF : Hid (decide (a = b) = true) := decide_eq_true (by
        have := HE.out
        rw [List.take_length, HLN.out, List.take_length] at this
        exact this)
      go_wp2
      go_ret
      exact ⟨ret_bool (by rw [HF.out]), m, rfl⟩

end Go.Proofs.YtlfackilmpnlhaaDoor
